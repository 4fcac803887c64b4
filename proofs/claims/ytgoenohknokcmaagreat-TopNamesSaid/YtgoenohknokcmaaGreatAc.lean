/- The abstract machine's regions against the model's, first part: guards; operations one behind the other. -/
import Derived.Test.YtgoenohknokcmaaGreatAb
open Option renaming bind_eq_some_iff->ad,map_eq_some_iff->g0,getD_some->h7,bind_some->ie,isNone_iff_eq_none->l3,map_some->pk
open List renaming getD_eq_getElem?_getD->bd,mem_cons_of_mem->b6,mem_append_right->b7,mem_append_left->e5,mem_cons_self->fc,getElem?_eq_some_iff->fv,getElem?_eq_none->fH,getElem?_eq_getElem->g7,all_eq_true->g8,getElem?_append_left->ha,getElem?_append_right->hD,contains_eq_mem->hE,length_append->hG,filterMap_cons->hH,getElem?_map->hJ,mem_of_getElem?->hN,mem_cons->hV,getElem?_set_ne->hY,getElem?_take_of_lt->kh,mem_append->ki,map_congr_left->lf,mem_filterMap->l0,getElem?_drop->l1,getElem?_set->l4,range->me,append_assoc->mv,map_cons->m1,getElem?_cons_zero->m3,mem_iff_getElem?->n1,length_set->n3,mem_toArray->o2,mem_flatMap->o3,getElem_mem->pe,mem_range->p0,mapM_cons->qs,mem_map->rm
open Array renaming getElem?_eq_getElem->b2,getElem?_eq_some_iff->e8,getD_eq_getD_getElem?->gd,getElem?_setIfInBounds->k0,getElem_mem->l5,foldl_induction->nn
open Bool renaming and_eq_true->cb,not_eq_true'->hP,false_eq_true->hU,not_eq_false->kq,false_or->mx,or_eq_true->n0
open Go renaming World->gf,Oper->hT,FuncId->hZ,Value->iH,Program->km,Code->p1,Operand->ri,Exit->rl,TypeId->ru
open Go.Region renaming binds->hF,ready->kt,wanted->q0
open Nat renaming lt_or_ge->hI,lt_of_lt_of_le->hM,le_refl->hO,testBit->j1,zero_add->j2,add_zero->j3,le_trans->nm,testBit_two_pow->n4,le_of_not_lt->o1,testBit_or->pv
open Option.some renaming injEq->hR,inj->pf
open Go.Result renaming andThen_ok->hX
open Go.Sem renaming run_bind->kv,run_pure->n5
set_option linter.unusedVariables false
set_option linter.unusedSimpArgs false
namespace Go.AM
open Go.RowKit
structure Step (w:gf) (ok:Nat->Prop) (mu:Mu) (h:List Ob) (a:Act) (w':gf) (ok':Nat->Prop) (mu':Mu) (h':List Ob) (a':Act) (ds:List Nat):Prop where
 later:Later w ok mu w' ok' mu'
 stay:Stay h h'
 defers:a'.defers=a.defers
 same: ∀t,t∉ds->a'.tmps[t]? =a.tmps[t]?
 size:a'.tmps.size=a.tmps.size
theorem Step.refl (w:gf) (ok:Nat->Prop) (mu:Mu) (h:List Ob) (a:Act) (ds:List Nat):Step w ok mu h a w ok mu h a ds:=⟨.refl _ _ _,.refl _,rfl,λ_ _=>rfl,rfl⟩
theorem Step.trans {w w1 w2:gf} {ok d e:Nat->Prop} {mu b c:Mu} {h h1 h2:List Ob} {a f g:Act} {ds es:List Nat} (x:Step w ok mu h a w1 d b h1 f ds) (y:Step w1 d b h1 f w2 e c h2 g es):Step w ok mu h a w2 e c h2 g (ds++es):=
 ⟨x.later.trans y.later,x.stay.trans y.stay,y.defers.trans x.defers,λt ht=>by
   simp only [ki,not_or] at ht
   rw [y.same t ht.2,x.same t ht.1],y.size.trans x.size⟩
theorem Step.sub {w w1:gf} {ok c:Nat->Prop} {mu b:Mu} {h h1:List Ob} {a d:Act} {ds es:List Nat} (x:Step w ok mu h a w1 c b h1 d ds) (hs: ∀t,t∈ds->t∈es):Step w ok mu h a w1 c b h1 d es:=
 ⟨x.later,x.stay,x.defers,λt ht=>x.same t λh=>ht (hs t h),x.size⟩
structure Cfg (w0:gf) (ok0:O0) (w:gf) (ok:Nat->Prop) (mu:Mu) (st:St) (a:Act):Prop where
 inv:Inv w0 ok0 w ok mu st.h
 fresh: ∀q,st.h.length<=q->mu q=none
 fr:Fr w ok mu st.fr a.tmps
def guardVal (ops:Array hT) (o:hT) (fr:List PV):Option Bool:=
 match o.guard with
 | none=>some true
 | some (j,want)=>
   match (ops[j]?).bind (·.dst) with
   | none=>none
   | some s=>
     match fr.getD s .undef with
     | .imm (.bool b)=>some (b==want)
     | .skip=>some false
     | _=>none
theorem aa8 {fr:List PV} {s:Nat} {p:PV} (h:fr.getD s .undef=p) (hp:p≠ .undef):fr.set s p=fr:=by
 apply List.ext_getElem?
 intro i
 rw [l4]
 by_cases e:s=i
 ·subst e
  by_cases hl:s < fr.length
  ·simp only [if_true,hl]
   rw [bd,g7 hl] at h
   simp only [h7] at h
   rw [g7 hl,h]
  ·exfalso
   rw [bd,fH (o1 hl)] at h
   exact hp h.symm
 ·simp [e]
section
variable {P:km} {Γ:hZ->Option FSig} {C:IV->List Nat->List (List IV)->Option (List IV)} {w0:gf} {ok0:O0} {ops:Array hT} {o:hT} {a:Act} {w:gf} {ok:Nat->Prop} {mu:Mu} {st:St} {R:Type}
theorem dp {k:St->Option R} {r:R} (hs:vQ P Γ C ops o st k=some r): ∃b,guardVal ops o st.fr=some b/\
  ((b=true/\ ∃p h',cZ P Γ C o st=some (p,h')/\k ⟨setDst st.fr o.dst p,h'⟩=some r)\/(b=false/\k ⟨setDst st.fr o.dst .skip,st.h⟩=some r)):=by
 have go: ∀{st:St},gI P Γ C o st (λp h=>k ⟨setDst st.fr o.dst p,h⟩)=some r-> ∃p h',cZ P Γ C o st=some (p,h')/\k ⟨setDst st.fr o.dst p,h'⟩=some r:=by
  intro st hs
  rw [Xb] at hs
  obtain ⟨⟨p,h'⟩,h1,h2⟩:=ad.1 hs
  exact ⟨p,h',h1,h2⟩
 unfold vQ at hs
 unfold guardVal
 simp only at hs
 split at hs
 ·rename_i h0;rw [h0];exact ⟨true,rfl,.inl ⟨rfl,go hs⟩⟩
 ·rename_i j want a
  rw [a]
  simp only
  split at hs
  ·cases hs
  ·rename_i s hj
   simp only [hj]
   split at hs
   ·rename_i x hx
    have key: ∀b:Bool,x= .bool b->(⟨st.fr.set s (.imm (.bool b)),st.h⟩:St)=st:=by
     rintro b rfl
     rw [aa8 hx (by simp)]
    rcases oH hs with ⟨rfl,h1⟩ | ⟨rfl,h1⟩
    ·rw [key true rfl] at h1
     simp only [hx]
     cases want
     ·simp only [hU,if_false] at h1
      exact ⟨false,rfl,.inr ⟨rfl,h1⟩⟩
     ·simp only [if_true] at h1
      exact ⟨true,rfl,.inl ⟨rfl,go h1⟩⟩
    ·rw [key false rfl] at h1
     simp only [hx]
     cases want
     ·simp only [hU,if_false] at h1
      exact ⟨true,rfl,.inl ⟨rfl,go h1⟩⟩
     ·simp only [if_true] at h1
      exact ⟨false,rfl,.inr ⟨rfl,h1⟩⟩
   ·rename_i hx
    simp only [hx]
    exact ⟨false,rfl,.inr ⟨rfl,hs⟩⟩
   ·cases hs
theorem Hq {fr:List PV} {b:Bool} (e:guardVal ops o fr=some b) (hf: ∀s v,o.guard.bind (λg=>(ops[g.1]?).bind (·.dst))=some s->a.tmps[s]? =some v->RP w ok mu (fr.getD s .undef) v) (hsz:fr.length=a.tmps.size):q0 o (yielded ops a.tmps)=b:=by
 unfold guardVal at e
 unfold q0
 split at e
 ·rename_i h0;rw [h0];cases e;rfl
 ·rename_i j want h0
  rw [h0]
  simp only
  split at e
  ·cases e
  ·rename_i s hj
   have f:fr.getD s .undef≠ .undef->s < a.tmps.size:=by
    intro h
    rw [<-hsz]
    rcases hI s fr.length with h1 | h1
    ·exact h1
    ·rw [bd,fH h1] at h;exact absurd rfl h
   have hb:o.guard.bind (λg=>(ops[g.1]?).bind (·.dst))=some s:=by rw [h0];exact hj
   split at e
   ·rename_i c hx
    cases e
    have hl:=f (by rw [hx];simp)
    have hv:a.tmps[s]? =some a.tmps[s]:=b2 hl
    have r:=hf s _ hb hv
    rw [hx] at r
    have d:a.tmps[s]= .bool c:=by
     generalize a.tmps[s]=v at r
     cases r with | imm r=>cases r;rfl
    rw [d] at hv
    have i:yielded ops a.tmps j=some c:=by
     unfold yielded
     rw [hj]
     simp only [ie]
     rw [hv]
    rw [i]
    cases c<;>cases want<;>rfl
   ·rename_i hx
    cases e
    have hl:=f (by rw [hx];simp)
    have hv:a.tmps[s]? =some a.tmps[s]:=b2 hl
    have r:=hf s _ hb hv
    rw [hx] at r
    have d:a.tmps[s]=undef:=by
     generalize a.tmps[s]=v at r
     cases r;rfl
    rw [d] at hv
    have i:yielded ops a.tmps j=none:=by
     unfold yielded
     rw [hj]
     simp only [ie]
     rw [hv]
     rfl
    rw [i]
    rfl
   ·cases e
theorem Fr.at {fr:List PV} {tmps:Array iH} (r:Fr w ok mu fr tmps) {s:Nat} {v:iH} (h:tmps[s]? =some v):RP w ok mu (fr.getD s .undef) v:=by
 have hl:s < tmps.size:=(e8.1 h).1
 have a:s < fr.length:=by rw [r.size];exact hl
 have h1:fr[s]? =some fr[s]:=g7 a
 rw [bd,h1]
 exact r.rel s _ v h1 h
theorem F7 {d:Option Nat} {v:iH} {t:Nat} (ht:d≠some t):(a.put d v).tmps[t]? =a.tmps[t]? :=by
 cases d with
 | none=>rfl
 | some d=>
   have:d≠t:= λe=>ht (by rw [e])
   simp [Act.put,Array.getElem?_setIfInBounds_ne this]
theorem Qt {d:Option Nat} {v:iH}:(a.put d v).tmps.size=a.tmps.size:=by cases d<;>simp [Act.put]
theorem rO {d:Option Nat} {v:iH}:(a.put d v).defers=a.defers:=by cases d<;>rfl
theorem Fr.put {fr:List PV} (r:Fr w ok mu fr a.tmps) (d:Option Nat) {p:PV} {v:iH} (h:RP w ok mu p v):Fr w ok mu (setDst fr d p) (a.put d v).tmps:=by
 cases d with
 | none=>exact r
 | some d=>exact r.set d h
theorem Hu (g:aF P Γ) (u:COK P C) {Q:rl->Act->gf->Prop} {k:St->Option R} {r:R}: ∀(l:List hT) (st:St) (a:Act) (w:gf) (ok:Nat->Prop) (mu:Mu),mH P Γ C ops l st k=some r->Cfg w0 ok0 w ok mu st a->
  (∀d a' w' ok' mu',k d=some r->Cfg w0 ok0 w' ok' mu' d a'->Step w ok mu st.h a w' ok' mu' d.h a' (dsts l)->Q .normal a' w')->wpList P ops Q l a w
 | [],st,a,w,ok,mu,hs,hc,hk=>hk st a w ok mu hs hc (.refl _ _ _ _ _ _)
 | o::l,st,a,w,ok,mu,hs,hc,hk=>by
   simp only [mH] at hs
   obtain ⟨b,z,f⟩:=dp hs
   have hw:=Hq (w:=w) (ok:=ok) (mu:=mu) (a:=a) z (λs v _ hv=>hc.fr.at hv) hc.fr.size
   have m: ∀t,t∈dsts l->t∈dsts (o::l):= λt ht=>by
    simp only [dsts,hH] at*
    split
    ·exact ht
    ·exact b6 _ ht
   have y: ∀t,o.dst=some t->t∈dsts (o::l):= λt ht=>by
    simp only [dsts,hH,ht]
    exact fc
   unfold wpList
   rw [hw]
   rcases f with ⟨rfl,p,h',n,c⟩ | ⟨rfl,c⟩
   ·simp only [if_true]
    left
    refine Xs g u n hc.fr hc.inv hc.fresh _ _ λv w' hr=> ?_
    obtain ⟨ok',mu',hl,hi,hp,x⟩:=hr
    refine Hu g u l _ _ _ ok' mu' c ⟨hi,x,(hc.fr.later hl).put o.dst hp⟩ λd a' w2 j i h1 h2 q=>hk d a' w2 j i h1 h2 ?_
    have h0:Step w ok mu st.h a w' ok' mu' h' (a.put o.dst v) (dsts (o::l)):=⟨hl,qK n,rO,λt ht=>F7 λe=>ht (y t e),Qt⟩
    exact (h0.trans (q.sub m)).sub λt ht=>by simpa using ht
   ·simp only [hU,if_false]
    refine Hu g u l _ _ _ ok mu c ⟨hc.inv,hc.fresh,hc.fr.put o.dst .skip⟩ λd a' w2 j i h1 h2 q=>hk d a' w2 j i h1 h2 ?_
    have h0:Step w ok mu st.h a w ok mu st.h (a.put o.dst undef) (dsts (o::l)):=⟨.refl _ _ _,.refl _,rO,λt ht=>F7 λe=>ht (y t e),Qt⟩
    exact (h0.trans (q.sub m)).sub λt ht=>by simpa using ht
end
end Go.AM
namespace Go.AM
open Go.RowKit
def ObFz (x y:Ob):Prop:=y=x\/(∃m cs,x= .box m cs/\y= .box .fz cs)\/ ∃m s z,x= .arr m s z/\y= .arr .fz s z
theorem ObFz.trans {x y z:Ob} (a:ObFz x y) (b:ObFz y z):ObFz x z:=by
 rcases a with rfl | ⟨m,cs,rfl,rfl⟩ | ⟨m,s,u,rfl,rfl⟩
 ·exact b
 ·rcases b with rfl | ⟨d,c,e,rfl⟩ | ⟨d,f,u',e,rfl⟩
  ·exact .inr (.inl ⟨m,cs,rfl,rfl⟩)
  ·cases e;exact .inr (.inl ⟨m,cs,rfl,rfl⟩)
  ·cases e
 ·rcases b with rfl | ⟨d,c,e,rfl⟩ | ⟨d,f,u',e,rfl⟩
  ·exact .inr (.inr ⟨m,s,u,rfl,rfl⟩)
  ·cases e
  ·cases e;exact .inr (.inr ⟨m,s,u,rfl,rfl⟩)
theorem ObFz.okL {w:gf} {ok:Nat->Prop} {mu:Mu} {pl:Pl} {x y:Ob} (a:ObFz x y) (h:ObOk w ok mu pl y):ObOk w ok mu pl x:=by
 rcases a with rfl | ⟨m,cs,rfl,rfl⟩ | ⟨m,s,u,rfl,rfl⟩<;>exact h
theorem ObFz.jG {w:gf} {ok:Nat->Prop} {mu:Mu} {pl:Pl} {x y:Ob} (a:ObFz x y) (h:ObOk w ok mu pl x):ObOk w ok mu pl y:=by
 rcases a with rfl | ⟨m,cs,rfl,rfl⟩ | ⟨m,s,u,rfl,rfl⟩<;>exact h
theorem ObFz.fz {x y:Ob} (a:ObFz x y) (h:x.fz=true):y.fz=true:=by
 rcases a with rfl | ⟨m,cs,rfl,rfl⟩ | ⟨m,s,u,rfl,rfl⟩
 ·exact h
 ·rfl
 ·rfl
theorem ObFz.live {x y:Ob} (a:ObFz x y):y.live=x.live:=by
 rcases a with rfl | ⟨m,cs,rfl,rfl⟩ | ⟨m,s,u,rfl,rfl⟩<;>rfl
structure SubH (h H:List Ob):Prop where
 len:h.length<=H.length
 same: ∀o,o < h.length->ObFz (getOb h o) (getOb H o)
theorem SubH.refl (h:List Ob):SubH h h:=⟨hO _,λ_ _=> .inl rfl⟩
theorem SubH.trans {h h1 h2:List Ob} (a:SubH h h1) (b:SubH h1 h2):SubH h h2:=
 ⟨nm a.len b.len,λo c=>(a.same o c).trans (b.same o (hM c a.len))⟩
theorem Frozen.subH {h h1:List Ob} {l:List Nat} (f:Frozen h h1 l):SubH h h1:=
 ⟨by rw [f.len];exact hO _,λo _=>by
   rcases f.same o with e | ⟨_,cs,m,a,b⟩ | ⟨s,x,m,a,b⟩
   ·exact .inl e
   ·exact .inr (.inl ⟨m,cs,a,b⟩)
   ·exact .inr (.inr ⟨m,s,x,a,b⟩)⟩
theorem SubH.append (h news:List Ob):SubH h (h++news):=⟨by simp,λo a=>by rw [aE,if_pos a];exact .inl rfl⟩
theorem SubH.wh {h h1:List Ob} {l:List Nat} (hf:wh h l=some h1) (news:List Ob):SubH h (h1++news):=(fp hf).subH.trans (.append _ _)
section
variable {P:km} {Γ:hZ->Option FSig} {C:IV->List Nat->List (List IV)->Option (List IV)} {h h':List Ob} {p:PV}
theorem Tw {l:List Nat} {h1:List Ob} (hf:AM.wh h l=some h1):SubH h h1:=(fp hf).subH
theorem Zj {t:ru} {a:PV} (hs:loadT P t a h (λp h=>some (p,h))=some (p,h')):SubH h h':=by
 unfold loadT at hs
 repeat' split at hs
 all_goals first
  | (cases hs;done)
  | (cases hs;exact .refl _)
  | (obtain ⟨r,_,he⟩:=ad.1 hs;cases he;exact .refl _)
theorem ZI {b:Builtin} {t0 t1:ru} {ps:List PV} (a:(!Af b)=true) (hs:oS P b t0 t1 ps h (λp h=>some (p,h))=some (p,h')):SubH h h':=by
 unfold oS at hs
 split at hs<;>first | (cases a;done) | skip
 all_goals (repeat' split at hs)
 all_goals first
  | (cases hs;done)
  | (cases hs;exact .refl _)
  | (obtain ⟨r,_,he⟩:=ad.1 hs;cases he;exact .refl _)
theorem Az {s:FSig} {ps:List PV} (a:s.mode= .pure\/s.mode= .own\/s.mode= .fresh\/ ∃n,s.mode= .look n) (hs:bL s h ps (λp h=>some (p,h))=some (p,h')):SubH h h':=by
 unfold bL at hs
 rcases a with a | a | a | ⟨n,a⟩<;>rw [a] at hs<;>simp only at hs
 ·split at hs
  ·rename_i as h1 _ hl
   obtain ⟨r,_,he⟩:=ad.1 hs
   cases he
   unfold ab7 at hl
   split at hl
   ·cases hl;exact .refl _
   ·exact Tw hl
  ·cases hs
 ·split at hs
  ·obtain ⟨r,_,he⟩:=ad.1 hs
   cases he
   exact .append _ _
  ·cases hs
 ·split at hs
  ·obtain ⟨r,_,he⟩:=ad.1 hs
   cases he
   exact .append _ _
  ·cases hs
 ·split at hs
  ·split at hs
   ·obtain ⟨r,_,he⟩:=ad.1 hs
    cases he
    exact .refl _
   ·cases hs
  ·cases hs
theorem La {o:hT} {c:Call} (hop:o.op= .call c) (a:cJ Γ o=true):(∀b,c.callee= .builtin b->(!Af b)=true)/\ ∀g s,c.callee= .value (.func g)->Γ g=some s->s.mode= .pure\/s.mode= .own\/s.mode= .fresh\/ ∃n,s.mode= .look n:=by
 unfold cJ at a
 rw [hop] at a
 simp only at a
 refine ⟨λb hb=> ?_,λg s d hs=> ?_⟩
 ·rw [hb] at a;exact a
 ·rw [d] at a
  simp only [hs] at a
  cases hm:s.mode<;>rw [hm] at a<;>simp_all
theorem Zp {o:hT} {c:Call} {f:ri} (hop:o.op= .call c) (hc:c.callee= .value f) (b: ∀g,f= .func g->False) (a:cJ Γ o=true):False:=by
 unfold cJ at a
 rw [hop] at a
 simp only [hc] at a
 cases f with
 | func g=>exact b g rfl
 | _=>cases a
theorem ZJ {o:hT} {st:St} (c:cJ Γ o=true) (hs:cZ P Γ C o st=some (p,h')):SubH st.h h':=by
 unfold cZ gI at hs
 repeat' split at hs
 all_goals first
  | (cases hs;done)
  | (obtain ⟨_,_,he⟩:=ad.1 hs;cases he;done)
  | (cases hs;exact .refl _)
  | (cases hs;exact .append _ _)
  | exact Zj hs
  | (rename_i hop;simp [cJ,hop] at c;done)
  | (rename_i b e _;exact ZI ((La ‹_› c).1 _ ‹_›) hs)
  | (rename_i s f;exact Az ((La ‹_› c).2 _ _ ‹_› ‹_›) hs)
  | exact Az (.inl rfl) hs
  | (rename_i a;exact (Tw a).trans (Az (.inl rfl) hs))
  | (obtain ⟨r,_,he⟩:=ad.1 hs;cases he;exact .refl _)
  | (obtain ⟨r,_,he⟩:=ad.1 hs;cases he;exact .append _ _)
  | (rcases oH hs with ⟨_,h1⟩ | ⟨_,h1⟩<;>cases h1<;>exact .refl _)
  | (obtain ⟨r,_,he⟩:=ad.1 hs;obtain ⟨_,_,d⟩:=ad.1 he;cases d;exact .refl _)
  | (obtain ⟨r,_,he⟩:=ad.1 hs;split at he<;>first | (cases he;done) | skip;split at he<;>first | (cases he;exact .refl _) | skip;split at he<;>first | (cases he;exact .refl _) | (cases he;done))
  | (rename_i a;cases hs;exact Tw a)
  | (rename_i a _;cases hs;exact SubH.wh a _)
  | exact (Zp ‹o.op= .call _› ‹_=Callee.value _› ‹∀g,_=Operand.func g->False› c).elim
  | (exfalso;have:cJ Γ o=false:=by { unfold cJ;simp only [*] }
     rw [this] at c;cases c)
end
section
variable {w0:gf} {ok0:O0} {w w':gf} {ok ok':Nat->Prop} {mu mu':Mu} {H:List Ob} {n:Nat} {news:List Ob} {fz:List Nat} {p:PV} {v:iH}
theorem Grow.later' (g:Grow w ok mu n news fz p v w' ok' mu') (hok: ∀b,ok b->b < w.heap.size) (hn:news≠[]->mu n=none):Later w ok mu w' ok' mu':=by
 rcases g.obs with ⟨_,e⟩ | ⟨ob,pl,e,_⟩
 ·have a:mu'=mu:=funext λo=>by
   by_cases h:o=n
   ·rw [h,e]
   ·exact g.same o h
  subst a
  refine ⟨⟨λb hb=>g.below.block b (hok b hb),g.more⟩,λ_ _ h=>h,λb c T z hb=>⟨c,z,?_,rfl⟩⟩
  rw [g.below.block b (e8.1 hb).1];exact hb
 ·exact g.later hok (hn (by rw [e];simp))
theorem Inv.growAt (i:Inv w0 ok0 w ok mu H) (hn:news≠[]->mu n=none) (g:Grow w ok mu n news fz p v w' ok' mu') (y: ∀q∈fz,(getOb H q).fz=true) (C: ∀ob,news=[ob]->ObFz ob (getOb H n)):Inv w0 ok0 w' ok' mu' H:=by
 have hl:=g.later' i.okw hn
 have hold: ∀o pl,mu' o=some pl->(mu o=some pl)\/(o=n/\ ∃ob,news=[ob]/\ob.live=true/\ObOk w' ok' mu' pl ob/\ ∀b base,pl.loc=some (b,base)->w.heap.size<=b/\b < w'.heap.size/\ ¬ok' b):=by
  intro o pl d
  by_cases e:o=n
  ·subst e
   rcases g.obs with ⟨_,f⟩ | ⟨ob,pl',f,D,h1,h2,a⟩
   ·exact .inl (by rw [<-f];exact d)
   ·rw [d] at D;cases D
    exact .inr ⟨rfl,ob,f,h1,h2,a⟩
  ·exact .inl (by rw [<-g.same o e];exact d)
 have l:w0.heap.size<=w.heap.size:=i.below.size
 refine ⟨i.below.trans (g.below.mono l),λb hb=> ?_,λb hb=> ?_,λo pl d=> ?_,λo pl b base d hb=> ?_,λo o' pl pl' b base base' d A hb h c r=> ?_⟩
 ·rcases g.new b hb with h1 | h1 | ⟨q,_,pl,base,h2,a⟩
  ·exact hM (i.okw b h1) g.below.size
  ·exact h1.2
  ·exact hM (i.own q pl b base h2 a).2.1 g.below.size
 ·rcases g.new b hb with h1 | h1 | ⟨q,_,pl,base,h2,a⟩
  ·exact i.okb b h1
  ·exact .inr (.inl (nm l h1.1))
  ·exact .inr (i.own q pl b base h2 a).1
 ·rcases hold o pl d with h1 | ⟨rfl,ob,f,_,h2,_⟩
  ·exact (i.ob o pl h1).later hl λb base hb=>g.below.block b (i.own o pl b base h1 hb).2.1
  ·exact (C ob f).jG h2
 ·rcases hold o pl d with h1 | ⟨rfl,ob,f,_,h2,a⟩
  ·obtain ⟨t,u,x⟩:=i.own o pl b base h1 hb
   refine ⟨t,hM u g.below.size,λc k hok=> ?_⟩
   rcases g.new b hok with E | E | ⟨q,L,pl',base',J,K⟩
   ·exact x c k E
   ·omega
   ·have j:=y q L
    have z:(getOb H q).live=true:=by
     cases hx:getOb H q with
     | dead=>rw [hx] at j;cases j
     | box _ _=>rfl
     | arr _ _ _=>rfl
    have:=i.inj o q pl pl' b base base' h1 J hb K c z
    subst this
    rw [j] at k;cases k
  ·obtain ⟨t,u,x⟩:=a b base hb
   exact ⟨.inl (nm l t),u,λ_ _=>x⟩
 ·rcases hold o pl d with h1 | ⟨e,ob,f,_,h2,a⟩<;>rcases hold o' pl' A with m | ⟨F,M,G,_,I,s⟩
  ·exact i.inj o o' pl pl' b base base' h1 m hb h c r
  ·have:=(i.own o pl b base h1 hb).2.1
   have:=(s b base' h).1
   omega
  ·have:=(i.own o' pl' b base' m h).2.1
   have:=(a b base hb).1
   omega
  ·rw [e,F]
end
end Go.AM
namespace Go.AM
open Go.RowKit
section
variable {P:km} {Γ:hZ->Option FSig} {C:IV->List Nat->List (List IV)->Option (List IV)} {h h':List Ob} {p:PV} {fr fr':List PV}
theorem I2 {x:Option ri} (hx: ∀y∈x.toArray,ev fr y=ev fr' y):p4 fr x=p4 fr' x:=by
 cases x with
 | none=>rfl
 | some y=>simp only [p4];rw [hx y (by simp)]
theorem MI {l:Array ri} (hl: ∀x∈l,ev fr x=ev fr' x):l.toList.map (ev fr)=l.toList.map (ev fr'):=
 lf λx hx=>hl x (by simpa using hx)
theorem TD {l:Array (Nat×ri)} (hl: ∀x∈(l.toList.map (·.2)).toArray,ev fr x=ev fr' x):(l.toList.map λp=>(p.1,ev fr p.2))=l.toList.map λp=>(p.1,ev fr' p.2):=
 lf λx hx=>by rw [hl x.2 (by simp only [o2,rm];exact ⟨x,hx,rfl⟩)]
theorem Rv {k:hZ->Bool} {l:Array (Nat×ri)} (hl: ∀x∈(l.toList.map (·.2)).toArray,ev fr x=ev fr' x):(l.toList.map λp=>(p.1,evK k fr p.2))=l.toList.map λp=>(p.1,evK k fr' p.2):=
 lf λx hx=>by
  have:=hl x.2 (by simp only [o2,rm];exact ⟨x,hx,rfl⟩)
  congr 1
  unfold evK
  split
  ·rfl
  ·exact this
theorem Im {o:hT} (g: ∀x∈o.op.operands,ev fr x=ev fr' x):cZ P Γ C o ⟨fr,h⟩=cZ P Γ C o ⟨fr',h⟩:=by
 obtain ⟨dst,op,type,pos,after,guard⟩:=o
 unfold cZ gI
 cases op<;>simp only [Op.operands] at g<;>simp only
 case build t ps=>rw [Rv g]
 case buildSlice t n ps=>rw [TD g]
 case makeMap t r=>cases r<;>rfl
 case mapUpdate t m x v=>rw [g m (by simp),g x (by simp),g v (by simp)]
 case lookup t m x c=>rw [g m (by simp),g x (by simp)]
 case makeInterface t x=>rw [g x (by simp)]
 case makeFunc fn first caps=>
  have:caps.toList.map (ev fr)=caps.toList.map (ev fr'):=MI λx hx=>g x (by simp [hx])
  rw [this]
 case slice t x lo hi q=>
  have h1:ev fr x=ev fr' x:=g x (by simp)
  have h2:p4 fr lo=p4 fr' lo:=I2 λy j=>g y (by simp [j])
  have k:p4 fr hi=p4 fr' hi:=I2 λy j=>g y (by simp [j])
  cases q with
  | none=>simp only;rw [h1,h2,k]
  | some m=>
    have l:ev fr m=ev fr' m:=g m (by simp)
    cases lo with
    | some y=>cases hi<;>rfl
    | none=>
      cases hi with
      | none=>rfl
      | some y=>
        have p:ev fr y=ev fr' y:=g y (by simp)
        simp only [h1,l,p]
 case call c=>
  have i:c.args.toList.map (ev fr)=c.args.toList.map (ev fr'):=MI λx hx=>g x (by simp [Call.operands,hx])
  simp only [i]
  cases hc:c.callee with
  | value f=>
    have hf:ev fr f=ev fr' f:=g f (by simp [Call.operands,hc])
    cases f<;>simp only<;>first | rfl | (rw [hf])
  | invoke r m=>
    have hf:ev fr r=ev fr' r:=g r (by simp [Call.operands,hc])
    simp only [hf]
  | builtin b=>rfl
 all_goals first
  | rfl
  | (rename_i a b c d e;rw [g _ (by simp:c∈ #[c,d])];rw [g _ (by simp:d∈ #[c,d])])
  | (simp only [g _ (by simp)];done)
  | (simp_all;done)
theorem Ac {o:hT} (hb:floatB o=true) (hk:okF o fr=true) (hs:cZ P Γ C o ⟨fr,h⟩=some (p,h')) (H:List Ob):h'=h/\cZ P Γ C o ⟨fr,H⟩=some (p,H):=by
 obtain ⟨dst,op,type,pos,after,guard⟩:=o
 cases op<;>simp only [floatB,reduceCtorEq] at hb<;>simp only [cZ,gI] at hs ⊢ <;>simp only [okF] at hk
 case move x=>cases hs;exact ⟨rfl,rfl⟩
 case assign x=>cases hs;exact ⟨rfl,rfl⟩
 case pick c x y=>
  split at hs
  ·rcases oH hs with ⟨rfl,h1⟩ | ⟨rfl,h1⟩<;>cases h1<;>exact ⟨rfl,rfl⟩
  ·cases hs
 case binOp op t x y t'=>
  split at hs
  ·split at hs
   ·rename_i hb
    obtain ⟨z,hz,he⟩:=ad.1 hs
    cases he
    exact ⟨rfl,by rw [if_pos hb,hz];rfl⟩
   ·rename_i hb
    split at hs
    ·rename_i a
     obtain ⟨z,hz,he⟩:=ad.1 hs
     cases he
     exact ⟨rfl,by rw [if_neg hb,if_pos a,hz];rfl⟩
    ·rename_i a
     obtain ⟨z,hz,he⟩:=ad.1 hs
     cases he
     exact ⟨rfl,by rw [if_neg hb,if_neg a,hz];rfl⟩
  ·split at hs
   ·rename_i hb
    obtain ⟨z,hz,he⟩:=ad.1 hs
    cases he
    exact ⟨rfl,by rw [if_pos hb,hz];rfl⟩
   ·cases hs
  ·split at hs
   ·rename_i hb
    split at hs
    ·rename_i h1 h2
     obtain ⟨z,hz,he⟩:=ad.1 hs
     cases he
     exact ⟨rfl,by rw [if_pos hb];simp only [hz];rfl⟩
    ·cases hs
   ·cases hs
  ·cases hs
 case unOp op t x=>
  split at hs
  ·obtain ⟨z,hz,he⟩:=ad.1 hs
   cases he
   exact ⟨rfl,by rw [hz];rfl⟩
  ·cases hs
 case slice t x lo hi e=>
  cases e with
  | some m=>
    cases lo with
    | some y=>cases hi<;>cases hs
    | none=>
      cases hi with
      | none=>cases hs
      | some y=>
        simp only at hs
        split at hs
        ·rename_i hx _ _;rw [hx] at hk;cases hk
        ·cases hs
  | none=>
  simp only at hs ⊢
  split at hs
  ·split at hs
   ·rename_i hb
    obtain ⟨z,hz,he⟩:=ad.1 hs
    cases he
    exact ⟨rfl,by rw [if_pos hb,hz];rfl⟩
   ·rename_i hb
    split at hs
    ·rename_i a
     obtain ⟨z,hz,he⟩:=ad.1 hs
     cases he
     exact ⟨rfl,by rw [if_neg hb,if_pos a,hz];rfl⟩
    ·cases hs
  ·rename_i hx _ _;rw [hx] at hk;cases hk
  ·rename_i hx _ _;rw [hx] at hk;cases hk
  ·cases hs
 case indexAddr t x i=>
  split at hs
  ·split at hs
   ·rename_i hb
    obtain ⟨z,hz,he⟩:=ad.1 hs
    cases he
    exact ⟨rfl,by rw [if_pos hb,hz];rfl⟩
   ·cases hs
  ·rename_i hx _;rw [hx] at hk;cases hk
  ·rename_i hx _;rw [hx] at hk;cases hk
  ·split at hs
   ·rename_i hu
    split at hs
    ·rename_i hb
     obtain ⟨z,hz,he⟩:=ad.1 hs
     cases he
     exact ⟨rfl,by rw [if_pos hb,hz];rfl⟩
    ·cases hs
   ·cases hs
  ·cases hs
 case field t x f=>
  split at hs
  ·split at hs
   ·rename_i hb
    cases hs
    exact ⟨rfl,by rw [if_pos hb]⟩
   ·rename_i hb
    split at hs
    ·rename_i a
     split at hs
     ·rename_i hc
      cases hs
      exact ⟨rfl,by rw [if_neg hb,if_pos a]⟩
     ·cases hs
    ·cases hs
  ·cases hs
 case nilCheck x=>
  split at hs
  ·obtain ⟨z,hz,he⟩:=ad.1 hs
   cases he
   exact ⟨rfl,by rw [hz];rfl⟩
  all_goals first | (cases hs;exact ⟨rfl,rfl⟩) | cases hs
 case fieldAddr s x f=>
  split at hs
  ·split at hs
   ·cases hs
   ·rename_i hz
    rw [if_neg hz]
    split at hs
    all_goals first
     | (cases hs;exact ⟨rfl,rfl⟩)
     | (obtain ⟨z,hz,he⟩:=ad.1 hs;cases he;exact ⟨rfl,by rw [hz];rfl⟩)
     | cases hs
  ·cases hs
 case convert s d x=>
  split at hk
  ·rename_i y b
   simp only [b,pK] at hs ⊢
   split at hs
   all_goals first
    | (obtain ⟨z,hz,he⟩:=ad.1 hs;cases he;exact ⟨rfl,by rw [hz];rfl⟩)
    | (split at hs
       ·obtain ⟨z,hz,he⟩:=ad.1 hs;cases he;exact ⟨rfl,by simp only [*,ie]⟩
       ·cases hs)
    | cases hs
  ·cases hk
 case extract x i=>
  split at hs
  ·split at hs
   ·cases hs;exact ⟨rfl,rfl⟩
   ·cases hs
  ·cases hs
theorem IE {o:hT} (hb:floatB o=true):cJ Γ o=true:=by
 unfold floatB at hb
 unfold cJ
 split at hb<;>first | (rename_i hop;rw [hop]) | cases hb
end
def loadB (o:hT):Bool:=match o.op with | .load _ _=>true | _=>false
section
variable {P:km} {Γ:hZ->Option FSig} {C:IV->List Nat->List (List IV)->Option (List IV)} {h h':List Ob} {p:PV} {fr:List PV}
theorem Mf {o:hT} (hb:loadB o=true):cJ Γ o=true:=by
 unfold loadB at hb
 unfold cJ
 split at hb<;>first | (rename_i hop;rw [hop]) | cases hb
theorem Qj {q:Nat} (h1:h.length<=q):getOb h q= .dead:=by unfold getOb;rw [bd,fH h1];rfl
theorem VF {S:List Nat} {o:hT} (hb:loadB o=true) (hk:HU S o fr=true) (hs:cZ P Γ C o ⟨fr,h⟩=some (p,h')) (H:List Ob) (c: ∀q∈S,q < h.length->getOb H q=getOb h q):h'=h/\cZ P Γ C o ⟨fr,H⟩=some (p,H):=by
 obtain ⟨dst,op,type,pos,after,guard⟩:=o
 cases op<;>simp only [loadB,reduceCtorEq] at hb
 case load t a=>
  simp only [HU] at hk
  split at hk
  ·rename_i q j d
   have hm:q∈S:=by simpa using hk
   simp only [cZ,gI] at hs ⊢
   rw [d] at hs ⊢
   have b:q < h.length:=by
    rcases hI q h.length with h1 | h1
    ·exact h1
    ·exfalso
     simp only [loadT,Qj h1] at hs
     repeat' split at hs
     all_goals cases hs
   simp only [loadT,c q hm b] at hs ⊢
   split at hs
   ·rename_i h1
    rw [if_pos h1]
    split at hs
    ·split at hs
     ·rename_i h2
      cases hs
      exact ⟨rfl,by rw [if_pos h2]⟩
     ·cases hs
    ·cases hs
   ·rename_i h1
    rw [if_neg h1]
    split at hs
    ·rename_i h2
     rw [if_pos h2]
     split at hs
     ·split at hs
      ·cases hs
       exact ⟨rfl,rfl⟩
      ·cases hs
     ·cases hs
    ·cases hs
  ·cases hk
theorem YE {S:List Nat} {o:hT} (hb:floatB o=true\/loadB o=true) (hk:HU S o fr=true) (hs:cZ P Γ C o ⟨fr,h⟩=some (p,h')) (H:List Ob) (g: ∀q∈S,q < h.length->getOb H q=getOb h q):h'=h/\cZ P Γ C o ⟨fr,H⟩=some (p,H):=by
 rcases hb with hb | hb
 ·by_cases c: ∃t x lo hi f,o.op= .slice t x lo hi f
  ·obtain ⟨t,x,lo,hi,f,hop⟩:=c
   by_cases b:Rg (ev fr x)=true
   ·exact Ac hb (by unfold okF;rw [hop];exact b) hs H
   ·unfold HU at hk
    rw [hop] at hk
    simp only [b,mx] at hk
    split at hk
    ·rename_i q n i
     have hm: ∀{md:Md} {sz:Nat} {x:IV},getOb h q= .arr md sz x->getOb H q=getOb h q:= λ{md sz x} a=>g q (by simpa using hk) (by
      rcases hI q h.length with h1 | h1
      ·exact h1
      ·rw [Qj h1] at a;cases a)
     unfold cZ gI at hs ⊢
     rw [hop] at hs ⊢
     cases f with
     | none=>
       simp only [i] at hs ⊢
       split at hs
       ·rename_i h1 _ _;cases h1
       ·rename_i h1 h2 d
        cases h1
        split at hs
        ·rename_i hc
         split at hs
         ·rename_i a
          split at hs
          ·rename_i hsz
           obtain ⟨z,hz,he⟩:=ad.1 hs
           cases he
           exact ⟨rfl,by simp only [h2,d,if_pos hc,hm a,a,if_pos hsz,hz,ie]⟩
          ·cases hs
         ·cases hs
        ·cases hs
       ·rename_i h1 _ _;cases h1
       ·cases hs
     | some m=>
       cases lo with
       | some y=>cases hi<;>cases hs
       | none=>
         cases hi with
         | none=>cases hs
         | some y=>
           simp only [i] at hs ⊢
           split at hs
           ·rename_i h1 h2 d
            cases h1
            split at hs
            ·rename_i hc
             split at hs
             ·rename_i a
              split at hs
              ·rename_i hsz
               obtain ⟨z,hz,he⟩:=ad.1 hs
               cases he
               exact ⟨rfl,by simp only [h2,d,if_pos hc,hm a,a,if_pos hsz,hz,ie]⟩
              ·cases hs
             ·cases hs
            ·cases hs
           ·cases hs
    ·cases hk
  ·have e:okF o fr=true:=by
    unfold HU at hk
    split at hk
    ·rename_i hop;simp [floatB,hop] at hb
    ·rename_i hop;exact absurd ⟨_,_,_,_,_,hop⟩ c
    ·exact hk
   exact Ac hb e hs H
 ·exact VF hb hk hs H g
theorem ZR {S:List Nat×Bool} {o:hT} {q:Nat} (hm:q∈S.1) (d:q < h.length) (g:S.2=true->isRw (getOb h q)=false) (hk:NW S o fr=true) (hs:cZ P Γ C o ⟨fr,h⟩=some (p,h')):getOb h' q=getOb h q:=by
 unfold NW at hk
 split at hk
 ·rename_i he;rw [he] at hm;cases hm
 ·split at hk
  ·rename_i t a v hop
   split at hk
   ·rename_i i j k
    have b:i≠q:= λe=>by subst e;simp [hm] at hk
    unfold cZ gI at hs
    rw [hop] at hs
    simp only [k] at hs
    unfold storeT at hs
    split at hs
    ·simp only at hs
     split at hs
     ·split at hs
      ·cases hs
       rw [bz,if_neg (λe=>b e.1)]
      ·cases hs
     ·cases hs
    ·cases hs
   ·cases hk
  ·rename_i c hop
   rcases Bool.or_eq_true_iff.1 hk with hk | hk
   ·exact (qK hs).keep q d (g hk)
   ·split at hk
    ·rename_i f
     split at hk
     ·rename_i x l hl
      unfold cZ gI at hs
      rw [hop] at hs
      simp only [f,hl,m1] at hs
      split at hs
      ·cases hs
      ·split at hk
       ·rename_i hx
        rw [hx] at hs
        unfold oS at hs
        split at hs<;>(try contradiction)<;>(try cases hs)<;>rename_i hh<;>(try (simp at hh;done))
        all_goals
         repeat' split at hs
         all_goals first
          | cases hs
          | (obtain ⟨z,hz,he⟩:=ad.1 hs;cases he;rw [aE,if_pos d])
       ·rename_i i n hx
        have b:i≠q:= λe=>by subst e;simp [hm] at hk
        rw [hx] at hs
        unfold oS at hs
        split at hs<;>(try contradiction)<;>(try cases hs)<;>rename_i hh<;>(try (simp at hh;done))
        all_goals
         simp only [List.cons.injEq,PV.buf.injEq] at hh
         repeat' split at hs
         all_goals first
          | cases hs
          | (obtain ⟨z,hz,he⟩:=ad.1 hs;cases he;rw [aE,if_pos (by simpa using d),bz,if_neg (λe=>b (by first | exact hh.1.1.trans e.1 | exact e.1 | omega))])
       ·cases hk
     ·cases hk
    ·cases hk
  ·simp only [cb] at hk
   rw [(Ac hk.1 hk.2 hs h).1]
theorem adW {o:hT} {a:Act} {w:gf} {ok:Nat->Prop} {mu:Mu} (D:aF P Γ) (J:COK P C) (hb:allocB o=true) (hs:bsP P Γ C o fr=some p) (hf:Fr w ok mu fr a.tmps) (G:InvQ w ok mu h):aI P o a w ok mu h p h:=by
 have L:cJ Γ o=true:=by
  unfold allocB at hb
  unfold cJ
  split at hb
  ·rename_i h1 _;rw [h1]
  ·cases hb
 unfold bsP at hs
 split at hs
 ·rename_i n sz es A
  cases hs
  have s:Fr w ok (λ_=>none) (EF fr) a.tmps:=by
   refine ⟨by simp [EF,hf.size],λt p v h1 h2=> ?_⟩
   unfold EF at h1
   rw [hJ] at h1
   obtain ⟨H,l,rfl⟩:=g0.1 h1
   have r:=hf.rel t H v l h2
   cases H with
   | imm x=>cases r with | imm r=>exact .imm r
   | _=>exact .undef _
  have E:InvQ w ok (λ_=>none) []:=⟨G.okw,λ_ _ h=>by (cases h),λ_ _ _ _ h=>by (cases h)⟩
  obtain ⟨news,fz,h1,u,hh,K⟩:=S6 (st:=⟨EF fr,[]⟩) D J A L s E (λ_=>rfl)
  refine ⟨[],[],h,rfl,by simp,K.mono λv w' ⟨ok',mu',g⟩=> ?_⟩
  have i:news=[.arr .rw sz (.lst es)]:=by
   have hl:=(fp u).len
   have k:h1=[]:=List.length_eq_zero_iff.1 (by simpa using hl)
   subst k
   simpa using hh.symm
  subst i
  rcases g.obs with ⟨h2,_⟩ | ⟨ob,pl,h2,l,M,I,m⟩
  ·cases h2
  ·simp only [List.cons.injEq,and_true] at h2
   subst h2
   have f:mu' 0=some pl:=l
   have F:InvQ w' ok' mu' [.arr .rw sz (.lst es)]:=by
    refine ⟨λb hb=> ?_,λq pl' c=> ?_,λq pl' b base c hb=> ?_⟩
    ·rcases g.new b hb with d | d | ⟨o',_,pl',base,j,_⟩
     ·exact hM (G.okw b d) g.below.size
     ·exact d.2
     ·cases j
    ·by_cases e:q=0
     ·subst e
      rw [f] at c;cases c
      exact I
     ·have:=g.same q (by simpa using e)
      rw [this] at c;cases c
    ·by_cases e:q=0
     ·subst e
      rw [f] at c;cases c
      exact (m b base hb).2.1
     ·have:=g.same q (by simpa using e)
      rw [this] at c;cases c
   have z:RV w' (jG ok' mu' [0]) (.lst es) v:=qZ F 1 (.buf 0 n) (.lst es) v rfl g.rp
   refine ⟨jG ok' mu' [0],mu,g.below,λb hb=> .inl (g.more b hb),λb hb=> ?_,λ_ _=>rfl,.inl ⟨rfl,rfl⟩,.imm z⟩
   rcases hb with hb | ⟨o',y,pl',base,d,j⟩
   ·rcases g.new b hb with d | d | ⟨o',_,pl',base,j,_⟩
    ·exact .inl d
    ·exact .inr (.inl d)
    ·cases j
   ·rw [List.mem_singleton.1 y,f] at d;cases d
    exact .inr (.inl ⟨(m b base j).1,(m b base j).2.1⟩)
 ·cases hs
end
def XW (o:hT):Bool:=
 match o.op with
 | .call c=>(match c.callee with | .builtin b=>ack b | _=>false)
 | _=>false
def quietA (Γ:hZ->Option FSig) (o:hT):Bool:=cJ Γ o||XW o
section
variable {P:km} {Γ:hZ->Option FSig} {C:IV->List Nat->List (List IV)->Option (List IV)} {h h':List Ob} {p:PV} {fr fr':List PV}
theorem Vq {o:hT} (hb:XW o=true) (hk:Xa o fr=true): ∃c x l,o.op= .call c/\c.callee= .builtin .append/\c.args.toList=x::l/\ev fr x= .nils:=by
 unfold XW at hb
 split at hb
 ·rename_i c hop
  split at hb
  ·rename_i b hc
   cases b<;>simp [ack] at hb
   unfold Xa at hk
   rw [hop] at hk
   simp only [hc] at hk
   split at hk
   ·rename_i x l hl
    refine ⟨c,x,l,hop,hc,hl,?_⟩
    unfold abv at hk
    split at hk
    ·assumption
    ·cases hk
   ·cases hk
  ·cases hb
 ·cases hb
theorem X6 {o:hT} {st:St} (a:cJ Γ o=true\/(XW o=true/\Xa o st.fr=true)) (hs:cZ P Γ C o st=some (p,h')):SubH st.h h':=by
 rcases a with a | ⟨hb,hk⟩
 ·exact ZJ a hs
 ·obtain ⟨c,x,l,hop,hc,hl,hx⟩:=Vq hb hk
  unfold cZ gI at hs
  rw [hop] at hs
  simp only [hc,hl,m1,hx] at hs
  split at hs
  ·cases hs
  ·unfold oS at hs
   repeat' split at hs
   all_goals first
    | (cases hs;done)
    | (rename_i e _;cases e;done)
    | (obtain ⟨r,_,he⟩:=ad.1 hs;cases he;exact .append _ _)
    | (exfalso;simp_all;done)
theorem adS {o:hT} {a:Act} {w:gf} {ok:Nat->Prop} {mu:Mu} {st:St} (i:aF P Γ) (k:COK P C) (hs:cZ P Γ C o st=some (p,h')) (f:cJ Γ o=true\/(XW o=true/\Xa o st.fr=true)) (hf:Fr w ok mu st.fr a.tmps) (j:InvQ w ok mu st.h) (hn:h'.length≠st.h.length->mu st.h.length=none):aI P o a w ok mu st.h p h':=by
 rcases f with f | ⟨hb,hk⟩
 ·exact S6 i k hs f hf j hn
 ·obtain ⟨c,x,l,hop,hc,hl,hx⟩:=Vq hb hk
  unfold cZ gI at hs
  rw [hop] at hs
  simp only [hc,hl,m1,hx] at hs
  split at hs
  ·cases hs
  ·rename_i hsz
   have hsz:c.argTypes.size=c.args.size:=by simpa using hsz
   cases l with
   | nil=>simp [oS] at hs
   | cons y l=>
     cases l with
     | cons z l=>simp [oS] at hs
     | nil=>
       simp only [m1,List.map_nil,oS] at hs
       have b:c.args= #[x,y]:=by rw [<-Array.toList_inj];simpa using hl
       have e:c.argTypes.size=2:=by rw [hsz,b];rfl
       split at hs
       ·rename_i d
        split at hs
        ·rename_i ys g
         obtain ⟨z,hz,he⟩:=ad.1 hs
         cases he
         exact EC hop hc b e d.1 d.2.1 d.2.2 j (hn (by simp)) (hf.ev x) (hf.ev y) hx g hz
        ·cases hs
       ·cases hs
end
end Go.AM
namespace Go.AM
open Go.RowKit
def VV (ops:Array hT):Array Nat:=ops.foldl (λacc o=>acc.push (o.after.foldl (λs e=>if hF .any e then s|||2 ^ e.on|||acc.getD e.on 0 else s) 0)) #[]
inductive Pre (ops:Array hT):Nat->Nat->Prop
 | edge {j:Nat} {o:hT} {e:Edge} (h:ops[j]? =some o) (he:e∈o.after) (hb:hF .any e=true):Pre ops j e.on
 | trans {j:Nat} {o:hT} {e:Edge} {i:Nat} (h:ops[j]? =some o) (he:e∈o.after) (hb:hF .any e=true) (hp:Pre ops e.on i):Pre ops j i
theorem NS (ops:Array hT): ∀j i,((VV ops).getD j 0).testBit i=true->Pre ops j i:=by
 have key:=nn (as:=ops) (motive:= λk acc=>acc.size=k/\ ∀j i,(acc.getD j 0).testBit i=true->Pre ops j i) (init:= #[])
  (f:= λacc o=>acc.push (o.after.foldl (λs e=>if hF .any e then s|||2 ^ e.on|||acc.getD e.on 0 else s) 0)) ⟨rfl,λj i h=>by simp at h⟩ (by
    intro k acc ih
    obtain ⟨hsz,a⟩:=ih
    have hk:ops[k.1]? =some ops[k]:=b2 k.2
    have inner:=nn (as:=ops[k].after) (motive:= λ_ s=> ∀i,j1 s i=true->Pre ops k i) (init:=0)
     (f:= λs e=>if hF .any e then s|||2 ^ e.on|||acc.getD e.on 0 else s) (λi h=>by simp at h) (by
       intro q s b i hi
       by_cases hb:hF .any ops[k].after[q]=true
       ·rw [if_pos hb] at hi
        simp only [pv,n0] at hi
        rcases hi with (hi | hi) | hi
        ·exact b i hi
        ·rw [n4] at hi
         have:ops[k].after[q].on=i:=by simpa using hi
         rw [<-this]
         exact .edge hk (l5 q.2) hb
        ·exact .trans hk (l5 q.2) hb (a _ i hi)
       ·rw [if_neg hb] at hi
        exact b i hi)
    refine ⟨by simp [hsz],λj i hi=> ?_⟩
    rw [gd,Array.getElem?_push] at hi
    split at hi
    ·rename_i e
     simp only [h7] at hi
     rw [e,hsz]
     exact inner i hi
    ·refine a j i ?_
     rw [gd]
     exact hi)
 exact key.2
def P8 (ops:Array hT):Nat->List Nat->Bool
 | _,[]=>true
 | s,i::l=>(match ops[i]? with | some o=>o.after.all (λe=> !hF .any e||j1 s e.on) | none=>false)&&P8 ops (s|||2 ^ i) l
theorem Ma (ops:Array hT): ∀(l:List Nat) (s:Nat),P8 ops s l=true-> ∀(k j:Nat) (o:hT) (e:Edge),l[k]? =some j->ops[j]? =some o->e∈o.after->hF .any e=true->j1 s e.on=true\/ ∃k':Nat,k' < k/\l[k']? =some e.on
 | [],s,_,k,j,o,e,hk,_,_,_=>by simp at hk
 | i::l,s,h,k,j,o,e,hk,a,he,hb=>by
   simp only [P8,cb] at h
   cases k with
   | zero=>
     simp at hk;subst hk
     rw [a] at h
     have:=Array.all_eq_true_iff_forall_mem.1 h.1 e he
     simp only [hb,Bool.not_true,mx] at this
     exact .inl this
   | succ k=>
     rcases Ma ops l _ h.2 k j o e (by simpa using hk) a he hb with h1 | ⟨k',h1,h2⟩
     ·simp only [pv,n0] at h1
      rcases h1 with h1 | h1
      ·exact .inl h1
      ·rw [n4] at h1
       have:i=e.on:=by simpa using h1
       exact .inr ⟨0,by omega,by simp [this]⟩
     ·exact .inr ⟨k'+1,by omega,by simpa using h2⟩
def RS (pm:Array Nat):List Nat->List Nat->Bool
 | _,[]=>true
 | done,b::l=>done.all (λi=>j1 (pm.getD b 0) i)&&RS pm (b::done) l
theorem Ie (pm:Array Nat): ∀(l done:List Nat),RS pm done l=true-> ∀(k b:Nat),l[k]? =some b->(∀i∈done,j1 (pm.getD b 0) i=true)/\ ∀(k' i:Nat),k' < k->l[k']? =some i->j1 (pm.getD b 0) i=true
 | [],_,_,k,b,hk=>by simp at hk
 | x::l,done,h,k,b,hk=>by
   simp only [RS,cb] at h
   cases k with
   | zero=>
     simp at hk;subst hk
     exact ⟨λi hi=>g8.1 h.1 i hi,λk' i a=>by omega⟩
   | succ k=>
     obtain ⟨h1,h2⟩:=Ie pm l (x::done) h.2 k b (by simpa using hk)
     refine ⟨λi hi=>h1 i (b6 _ hi),λk' i a hi=> ?_⟩
     cases k' with
     | zero=>simp at hi;subst hi;exact h1 _ fc
     | succ k'=>exact h2 k' i (by omega) (by simpa using hi)
def afB (ops:Array hT) (pm:Array Nat):Bool:=
 (me ops.size).all λj=>match ops[j]? with
   | some o=>(o.looksAt ops).all λt=>(me ops.size).all λi=>match ops[i]? with
     | some oi=>oi.dst !=some t||i==j||j1 (pm.getD j 0) i||j1 (pm.getD i 0) j
     | none=>true
   | none=>true
theorem II: ∀{l:List Nat},dF l=true-> ∀(k k' j:Nat),l[k]? =some j->l[k']? =some j->k=k'
 | [],_,k,k',j,hk,_=>by simp at hk
 | x::l,h,k,k',j,hk,a=>by
   simp only [dF,cb,hP,hE,decide_eq_false_iff_not] at h
   cases k with
   | zero=>
     cases k' with
     | zero=>rfl
     | succ k'=>
       simp at hk a
       subst hk
       exact absurd (hN a) h.1
   | succ k=>
     cases k' with
     | zero=>
       simp at hk a
       subst a
       exact absurd (hN hk) h.1
     | succ k'=>rw [II h.2 k k' j (by simpa using hk) (by simpa using a)]
def K7 (Γ:hZ->Option FSig) (ops:Array hT) (F A B:List Nat):Bool:=
 let ord:=A++(F++B)
 let pm:=VV ops
 dF ord&&(me ops.size).all (λj=>ord.contains j)&&dF (ops.toList.filterMap (·.dst))&&
 (A++F).all (λi=>match ops[i]? with | some o=>quietA Γ o | none=>false)&&
 F.all (λi=>match ops[i]? with | some o=>floatB o||loadB o||allocB o | none=>false)&&
 P8 ops 0 ord&&afB ops pm&&RS pm A B
structure DCtx (Γ:hZ->Option FSig) (ops:Array hT) (ord:List Nat) (nF nA:Nat):Prop where
 nd: ∀(k k' j:Nat),ord[k]? =some j->ord[k']? =some j->k=k'
 all: ∀j,j < ops.size-> ∃k:Nat,ord[k]? =some j
 dst: ∀(i j:Nat) (oi oj:hT) (t:Nat),ops[i]? =some oi->ops[j]? =some oj->oi.dst=some t->oj.dst=some t->i=j
 q: ∀(k j:Nat) (o:hT),k < nA->ord[k]? =some j->ops[j]? =some o->quietA Γ o=true
 fl: ∀(k j:Nat) (o:hT),nF<=k->k < nA->ord[k]? =some j->ops[j]? =some o->(floatB o=true\/loadB o=true)\/allocB o=true
 topo: ∀(k j:Nat) (o:hT) (e:Edge),ord[k]? =some j->ops[j]? =some o->e∈o.after->hF .any e=true-> ∃k':Nat,k' < k/\ord[k']? =some e.on
 look: ∀(j:Nat) (o:hT) (t i:Nat) (oi:hT),ops[j]? =some o->t∈o.looksAt ops->ops[i]? =some oi->oi.dst=some t->i=j\/Pre ops j i\/Pre ops i j
 wait: ∀(k j:Nat),nA<=k->ord[k]? =some j-> ∀(k' i:Nat),(k' < nF\/nA<=k')->k' < k->ord[k']? =some i->Pre ops j i
 le:nF<=nA
 len:nA<=ord.length
theorem Ci {ops:Array hT} (h:dF (ops.toList.filterMap (·.dst))=true): ∀(i j:Nat) (oi oj:hT) (t:Nat),ops[i]? =some oi->ops[j]? =some oj->oi.dst=some t->oj.dst=some t->i=j:=by
 have key: ∀(l:List hT),dF (l.filterMap (·.dst))=true-> ∀(i j:Nat) (oi oj:hT) (t:Nat),l[i]? =some oi->l[j]? =some oj->oi.dst=some t->oj.dst=some t->i=j:=by
  intro l
  induction l with
  | nil=>intro _ i j oi oj t hi;simp at hi
  | cons x l ih=>
    intro h i j oi oj t hi hj h1 h2
    have b: ∀(i:Nat) (o:hT),l[i]? =some o->o.dst=some t->t∈l.filterMap (·.dst):= λi o hi c=>l0.2 ⟨o,hN hi,c⟩
    cases i with
    | zero=>
      cases j with
      | zero=>rfl
      | succ j=>
        simp at hi hj;subst hi
        simp only [hH,h1,dF,cb,hP,hE,decide_eq_false_iff_not] at h
        exact absurd (b j oj hj h2) h.1
    | succ i=>
      have a:dF (l.filterMap (·.dst))=true:=by
       simp only [hH] at h
       split at h
       ·exact h
       ·simp only [dF,cb] at h;exact h.2
      cases j with
      | zero=>
        simp at hi hj;subst hj
        simp only [hH,h2,dF,cb,hP,hE,decide_eq_false_iff_not] at h
        exact absurd (b i oi hi h1) h.1
      | succ j=>rw [ih a i j oi oj t (by simpa using hi) (by simpa using hj) h1 h2]
 intro i j oi oj t hi hj
 exact key ops.toList h i j oi oj t (by simpa using hi) (by simpa using hj)
theorem UO {Γ:hZ->Option FSig} {ops:Array hT} {F A B:List Nat} (h:K7 Γ ops F A B=true):DCtx Γ ops (A++(F++B)) A.length (A++F).length:=by
 simp only [K7,cb] at h
 obtain ⟨⟨⟨⟨⟨⟨⟨h1,h2⟩,p⟩,q⟩,r⟩,s⟩,u⟩,v⟩:=h
 have b:=NS ops
 refine ⟨II h1,λj hj=> ?_,Ci p,λk j o hk hj c=> ?_,λk j o l hk hj c=> ?_,λk j o e hk c he hb=> ?_,λj o t i oi c ht hi w=> ?_,λk j hk hj k' i g f hi=> ?_,by simp,by simp⟩
 ·have:=g8.1 h2 j (p0.2 hj)
  rw [hE,decide_eq_true_eq] at this
  exact n1.1 this
 ·have hm:j∈A++F:=by
   have:(A++F)[k]? =some j:=by
    rw [<-mv,ha hk] at hj;exact hj
   exact hN this
  have:=g8.1 q j hm
  rwa [c] at this
 ·have hm:j∈F:=by
   rw [<-mv,ha hk,hD l] at hj
   exact hN hj
  have:=g8.1 r j hm
  rw [c] at this
  simpa using this
 ·rcases Ma ops _ 0 s k j o e hk c he hb with d | d
  ·simp at d
  ·exact d
 ·have f: ∀{i:Nat} {o:hT},ops[i]? =some o->i∈me ops.size:= λh=>p0.2 (e8.1 h).1
  have m:=g8.1 u j (f c)
  rw [c] at m
  have n:=g8.1 m t ht
  have a:=g8.1 n i (f hi)
  rw [hi] at a
  simp only [w,bne_self_eq_false,mx,n0,beq_iff_eq] at a
  rcases a with (a | a) | a
  ·exact .inl a
  ·exact .inr (.inl (b _ _ a))
  ·exact .inr (.inr (b _ _ a))
 ·rw [<-mv] at hj hi
  rw [hD hk] at hj
  obtain ⟨w1,w2⟩:=Ie _ B A v _ _ hj
  rcases g with d | d
  ·rw [ha (by rw [hG];omega),ha d] at hi
   exact b _ _ (w1 i (hN hi))
  ·rw [hD d] at hi
   exact b _ _ (w2 _ i (by omega) hi)
theorem Pre.pos {Γ:hZ->Option FSig} {ops:Array hT} {ord:List Nat} {nF nA:Nat} (D:DCtx Γ ops ord nF nA) {j i:Nat} (p:Pre ops j i): ∀k:Nat,ord[k]? =some j-> ∃k':Nat,k' < k/\ord[k']? =some i:=by
 induction p with
 | edge h he hb=>exact λk hk=>D.topo k _ _ _ hk h he hb
 | trans h he hb _ ih=>
   intro k hk
   obtain ⟨b,h1,h2⟩:=D.topo k _ _ _ hk h he hb
   obtain ⟨c,d,a⟩:=ih b h2
   exact ⟨c,by omega,a⟩
end Go.AM
namespace Go.AM
open Go.RowKit
def okAt (S:List Nat×Bool) (nF nA k:Nat) (o:hT) (fr:List PV):Bool:=if k < nF then Xa o fr else if k < nA then (allocB o||HU S.1 o fr) else NW S o fr
def stepX (P:km) (Γ:hZ->Option FSig) (C:IV->List Nat->List (List IV)->Option (List IV)) (nF nA k:Nat) (o:hT) (st:St):Option (PV×List Ob):=
 if nF<=k/\k < nA/\allocB o=true then (bsP P Γ C o st.fr).map λp=>(p,st.h) else cZ P Γ C o st
structure Trc (P:km) (Γ:hZ->Option FSig) (C:IV->List Nat->List (List IV)->Option (List IV)) (ops:Array hT) (ord:List Nat) (nF nA:Nat) (S:List Nat×Bool) (sts:Nat->St) (ps:Nat->PV) (gs:Nat->Bool):Prop where
 step: ∀(k j:Nat),ord[k]? =some j-> ∃o:hT,ops[j]? =some o/\guardVal ops o (sts k).fr=some (gs k)/\(gs k=true->stepX P Γ C nF nA k o (sts k)=some (ps k,(sts (k+1)).h))/\(gs k=false->ps k= .skip/\(sts (k+1)).h=(sts k).h)/\
  (sts (k+1)).fr=setDst (sts k).fr o.dst (ps k)/\okAt S nF nA k o (sts k).fr=true
def ab8 {α:Type} (x:α) (f:Nat->α):Nat->α
 | 0=>x
 | n+1=>f n
section
variable {P:km} {Γ:hZ->Option FSig} {C:IV->List Nat->List (List IV)->Option (List IV)} {ops:Array hT} {R:Type}
theorem Trc.cons {S:List Nat×Bool} {l:List Nat} {nF a nA c:Nat} {sts:Nat->St} {ps:Nat->PV} {gs:Nat->Bool} (T:Trc P Γ C ops l nF nA S sts ps gs) {st:St} {j:Nat} {o:hT} {p:PV} {b:Bool} (w:ops[j]? =some o) (d:guardVal ops o st.fr=some b) (h1:b=true->stepX P Γ C a c 0 o st=some (p,(sts 0).h)) (h2:b=false->p= .skip/\(sts 0).h=st.h)
  (u:(sts 0).fr=setDst st.fr o.dst p) (v:okAt S a c 0 o st.fr=true) (x:nF=a - 1) (y:nA=c - 1):Trc P Γ C ops (j::l) a c S (ab8 st sts) (ab8 p ps) (ab8 b gs):=by
 refine ⟨λk i hk=> ?_⟩
 cases k with
 | zero=>simp at hk;subst hk;exact ⟨o,w,d,h1,h2,u,v⟩
 | succ k=>
   obtain ⟨o',f,g,m,n,q,r⟩:=T.step k i (by simpa using hk)
   have s:(k+1 < a)↔k < nF:=by omega
   have e:(k+1 < c)↔k < nA:=by omega
   have t:(a<=k+1)↔nF<=k:=by omega
   refine ⟨o',f,g,λd=> ?_,n,q,?_⟩
   ·have:=m d
    simp only [stepX,e,t] at this ⊢
    exact this
   ·have:okAt S a c (k+1) o'=okAt S nF nA k o':=by
     funext fr
     simp only [okAt,s,e]
    show okAt S a c (k+1) o' (sts k).fr=true
    rw [this];exact r
theorem RM {S:List Nat×Bool} {k:St->Option R} {r:R}: ∀(l:List Nat) (st:St),(∀j∈l,j < ops.size)->sN P Γ C (NW S) ops (l.filterMap (ops[·]?)) st k=some r-> ∃sts ps gs,sts 0=st/\Trc P Γ C ops l 0 0 S sts ps gs/\k (sts l.length)=some r
 | [],st,_,hs=>⟨λ_=>st,λ_=> .undef,λ_=>true,rfl,⟨λk j hk=>by simp at hk⟩,hs⟩
 | j::l,st,hl,hs=>by
   have hj:ops[j]? =some (ops[j]'(hl j fc)):=b2 (hl j fc)
   have hf:(j::l).filterMap (ops[·]?)=ops[j]'(hl j fc)::l.filterMap (ops[·]?):=by simp [hH,hj]
   rw [hf] at hs
   simp only [sN] at hs
   split at hs
   ·rename_i hok
    obtain ⟨b,e,c⟩:=dp hs
    rcases c with ⟨rfl,p,h',d,a⟩ | ⟨rfl,a⟩
    ·obtain ⟨sts,ps,gs,h0,T,hk⟩:=RM l _ (λi hi=>hl i (b6 _ hi)) a
     exact ⟨_,_,_,rfl,T.cons hj e (λ_=>by rw [h0];simpa [stepX] using d) (λh=>by cases h) (by rw [h0]) (by simpa [okAt] using hok) rfl rfl,hk⟩
    ·obtain ⟨sts,ps,gs,h0,T,hk⟩:=RM l _ (λi hi=>hl i (b6 _ hi)) a
     exact ⟨_,_,_,rfl,T.cons (p:= .skip) hj e (λh=>by cases h) (λ_=>⟨rfl,by rw [h0]⟩) (by rw [h0]) (by simpa [okAt] using hok) rfl rfl,hk⟩
   ·cases hs
theorem XX {o:hT} (h:allocB o=true):o.guard=none:=by
 unfold allocB at h
 split at h
 ·assumption
 ·cases h
theorem Kv {S:List Nat×Bool} {k:St->Option R} {r:R} {l:List Nat} (hl: ∀j∈l,j < ops.size): ∀(F:List Nat) (st:St),(∀j∈F,j < ops.size)->qJ P Γ C (HU S.1) ops (F.filterMap (ops[·]?)) st (λg=>sN P Γ C (NW S) ops (l.filterMap (ops[·]?)) g k)=some r->
  ∃sts ps gs,sts 0=st/\Trc P Γ C ops (F++l) 0 F.length S sts ps gs/\k (sts (F++l).length)=some r
 | [],st,_,hs=>RM l st hl hs
 | j::F,st,e,hs=>by
   have hj:ops[j]? =some (ops[j]'(e j fc)):=b2 (e j fc)
   have hf:(j::F).filterMap (ops[·]?)=ops[j]'(e j fc)::F.filterMap (ops[·]?):=by simp [hH,hj]
   rw [hf] at hs
   simp only [qJ] at hs
   split at hs
   ·rename_i c
    split at hs
    ·rename_i p hp
     obtain ⟨sts,ps,gs,h0,T,hk⟩:=Kv hl F _ (λi hi=>e i (b6 _ hi)) hs
     exact ⟨_,_,_,rfl,T.cons (p:=p) (b:=true) hj (by unfold guardVal;rw [XX c]) (λ_=>by rw [h0];simp [stepX,c,hp]) (λh=>by cases h) (by rw [h0]) (by simp [okAt,c]) rfl (by simp),hk⟩
    ·cases hs
   ·rename_i c
    split at hs
    ·rename_i hok
     obtain ⟨b,m,d⟩:=dp hs
     rcases d with ⟨rfl,p,h',f,a⟩ | ⟨rfl,a⟩
     ·obtain ⟨sts,ps,gs,h0,T,hk⟩:=Kv hl F _ (λi hi=>e i (b6 _ hi)) a
      exact ⟨_,_,_,rfl,T.cons hj m (λ_=>by rw [h0];simpa [stepX,c] using f) (λh=>by cases h) (by rw [h0]) (by simp [okAt,hok]) rfl (by simp),hk⟩
     ·obtain ⟨sts,ps,gs,h0,T,hk⟩:=Kv hl F _ (λi hi=>e i (b6 _ hi)) a
      exact ⟨_,_,_,rfl,T.cons (p:= .skip) hj m (λh=>by cases h) (λ_=>⟨rfl,by rw [h0]⟩) (by rw [h0]) (by simp [okAt,hok]) rfl (by simp),hk⟩
    ·cases hs
theorem Nc {F l:List Nat} {k:St->Option R} {r:R} (hl: ∀j∈l,j < ops.size) (f: ∀j∈F,j < ops.size): ∀(A:List Nat) (st:St),(∀j∈A,j < ops.size)->sN P Γ C Xa ops (A.filterMap (ops[·]?)) st (λd=>qJ P Γ C (HU (Yy F ops d.fr)) ops (F.filterMap (ops[·]?)) d λn=>sN P Γ C (NW (aal F ops d)) ops (l.filterMap (ops[·]?)) n k)=some r->
  ∃S sts ps gs,sts 0=st/\Trc P Γ C ops (A++(F++l)) A.length (A++F).length S sts ps gs/\(S.2=true-> ∀q∈S.1,isRw (getOb (sts A.length).h q)=false)/\k (sts (A++(F++l)).length)=some r
 | [],st,_,hs=>by
   obtain ⟨sts,ps,gs,h0,T,hk⟩:=Kv (S:=aal F ops st) hl F st f hs
   refine ⟨_,sts,ps,gs,h0,T,λh2 q s=> ?_,hk⟩
   have:=g8.1 h2 q s
   show isRw (getOb (sts 0).h q)=false
   rw [h0]
   simpa using this
 | j::A,st,e,hs=>by
   have hj:ops[j]? =some (ops[j]'(e j fc)):=b2 (e j fc)
   have hf:(j::A).filterMap (ops[·]?)=ops[j]'(e j fc)::A.filterMap (ops[·]?):=by simp [hH,hj]
   rw [hf] at hs
   simp only [sN] at hs
   split at hs
   ·rename_i hok
    obtain ⟨b,o,c⟩:=dp hs
    rcases c with ⟨rfl,p,h',m,a⟩ | ⟨rfl,a⟩
    ·obtain ⟨S,sts,ps,gs,h0,T,g,hk⟩:=Nc hl f A _ (λi hi=>e i (b6 _ hi)) a
     exact ⟨S,_,_,_,rfl,T.cons hj o (λ_=>by rw [h0];simpa [stepX] using m) (λh=>by cases h) (by rw [h0]) (by simpa [okAt] using hok) (by simp) (by simp),g,hk⟩
    ·obtain ⟨S,sts,ps,gs,h0,T,g,hk⟩:=Nc hl f A _ (λi hi=>e i (b6 _ hi)) a
     exact ⟨S,_,_,_,rfl,T.cons (p:= .skip) hj o (λh=>by cases h) (λ_=>⟨rfl,by rw [h0]⟩) (by rw [h0]) (by simpa [okAt] using hok) (by simp) (by simp),g,hk⟩
   ·cases hs
variable {ord:List Nat} {nF nA:Nat} {S:List Nat×Bool} {sts:Nat->St} {ps:Nat->PV} {gs:Nat->Bool}
theorem OG (fr:List PV) (d:Option Tmp) (p:PV):(setDst fr d p).length=fr.length:=by cases d<;>simp [setDst]
theorem Qx {fr:List PV} {d:Option Tmp} {p:PV} {t:Nat} (h:d≠some t):(setDst fr d p).getD t .undef=fr.getD t .undef:=by
 cases d with
 | none=>rfl
 | some d=>
   have:d≠t:= λe=>h (by rw [e])
   simp [setDst,bd,hY this]
theorem Zy {fr:List PV} {p:PV} {t:Nat} (h:t < fr.length):(setDst fr (some t) p).getD t .undef=p:=by
 simp [setDst,bd,List.getElem?_set_self h]
theorem Trc.at (T:Trc P Γ C ops ord nF nA S sts ps gs) {k:Nat} (hk:k < ord.length): ∃j,ord[k]? =some j:=⟨ord[k],g7 hk⟩
theorem Trc.len (T:Trc P Γ C ops ord nF nA S sts ps gs): ∀k,k<=ord.length->(sts k).fr.length=(sts 0).fr.length
 | 0,_=>rfl
 | k+1,h=>by
   obtain ⟨j,hj⟩:=T.at (k:=k) (by omega)
   obtain ⟨o,_,_,_,_,a,_⟩:=T.step k j hj
   rw [a,OG]
   exact T.len k (by omega)
theorem Trc.ini (T:Trc P Γ C ops ord nF nA S sts ps gs) {t:Nat}: ∀k,k<=ord.length->(∀(k' j:Nat) (o:hT),k' < k->ord[k']? =some j->ops[j]? =some o->o.dst≠some t)->(sts k).fr.getD t .undef=(sts 0).fr.getD t .undef
 | 0,_,_=>rfl
 | k+1,h,hn=>by
   obtain ⟨j,hj⟩:=T.at (k:=k) (by omega)
   obtain ⟨o,h1,_,_,_,a,_⟩:=T.step k j hj
   rw [a,Qx (hn k j o (by omega) hj h1)]
   exact T.ini k (by omega) λk' b o' h=>hn k' b o' (by omega)
theorem Trc.fin (T:Trc P Γ C ops ord nF nA S sts ps gs) {t:Nat}: ∀(d k:Nat),k+d=ord.length->(∀(k' j:Nat) (o:hT),k<=k'->ord[k']? =some j->ops[j]? =some o->o.dst≠some t)->(sts ord.length).fr.getD t .undef=(sts k).fr.getD t .undef
 | 0,k,h,_=>by rw [<-h];rfl
 | d+1,k,h,hn=>by
   obtain ⟨j,hj⟩:=T.at (k:=k) (by omega)
   obtain ⟨o,h1,_,_,_,a,_⟩:=T.step k j hj
   rw [T.fin d (k+1) (by omega) λk' b o' h=>hn k' b o' (by omega),a,Qx (hn k j o (by omega) hj h1)]
theorem Trc.Xa (T:Trc P Γ C ops ord nF nA S sts ps gs) {k j:Nat} {o:hT} (hk:k < nF) (hj:ord[k]? =some j) (b:ops[j]? =some o):Xa o (sts k).fr=true:=by
 obtain ⟨o',h2,_,_,_,_,a⟩:=T.step k j hj
 rw [b] at h2;cases h2
 unfold okAt at a
 rwa [if_pos hk] at a
theorem Trc.HU (T:Trc P Γ C ops ord nF nA S sts ps gs) {k j:Nat} {o:hT} (hk:nF<=k) (c:k < nA) (b: ¬allocB o=true) (hj:ord[k]? =some j) (d:ops[j]? =some o):HU S.1 o (sts k).fr=true:=by
 obtain ⟨o',h2,_,_,_,_,a⟩:=T.step k j hj
 rw [d] at h2;cases h2
 unfold okAt at a
 rw [if_neg (by omega),if_pos c] at a
 simpa [b] using a
theorem ya {nF nA k:Nat} {o:hT} {st:St} (h: ¬(nF<=k/\k < nA/\allocB o=true)):stepX P Γ C nF nA k o st=cZ P Γ C o st:=if_neg h
theorem E6 {nF nA k:Nat} {o:hT} {st:St} {p:PV} {h':List Ob} (h:nF<=k/\k < nA/\allocB o=true) (hs:stepX P Γ C nF nA k o st=some (p,h')):bsP P Γ C o st.fr=some p/\h'=st.h:=by
 unfold stepX at hs
 rw [if_pos h] at hs
 obtain ⟨a,h1,h2⟩:=g0.1 hs
 cases h2
 exact ⟨h1,rfl⟩
theorem U5 {o:hT} (hb:allocB o=true):cJ Γ o=true:=by
 unfold allocB at hb
 unfold cJ
 split at hb
 ·rename_i h1 _;rw [h1]
 ·cases hb
theorem Trc.NW (T:Trc P Γ C ops ord nF nA S sts ps gs) (hle:nF<=nA) {k j:Nat} {o:hT} (hk:nA<=k) (hj:ord[k]? =some j) (b:ops[j]? =some o):NW S o (sts k).fr=true:=by
 obtain ⟨o',h2,_,_,_,_,a⟩:=T.step k j hj
 rw [b] at h2;cases h2
 unfold okAt at a
 rwa [if_neg (by omega),if_neg (by omega)] at a
theorem Trc.quiet (T:Trc P Γ C ops ord nF nA S sts ps gs) (D:DCtx Γ ops ord nF nA) {k j:Nat} {o:hT} (hk:k < nA) (hj:ord[k]? =some j) (a:ops[j]? =some o):cJ Γ o=true\/(XW o=true/\AM.Xa o (sts k).fr=true):=by
 have b:=D.q k j o hk hj a
 unfold quietA at b
 rcases hI k nF with h1 | h1
 ·cases hb:cJ Γ o with
  | true=>exact .inl rfl
  | false=>
    rw [hb,mx] at b
    exact .inr ⟨b,T.Xa h1 hj a⟩
 ·rcases D.fl k j o h1 hk hj a with (h2 | h2) | h2
  ·exact .inl (IE h2)
  ·exact .inl (Mf h2)
  ·exact .inl (U5 h2)
theorem Trc.sameF (T:Trc P Γ C ops ord nF nA S sts ps gs) (D:DCtx Γ ops ord nF nA) {k j:Nat} (hk:nF<=k) (b:k < nA) (hj:ord[k]? =some j):(sts (k+1)).h=(sts k).h:=by
 obtain ⟨o,h1,_,e,f,_⟩:=T.step k j hj
 cases d:gs k with
 | false=>exact (f d).2
 | true=>
   by_cases a:allocB o=true
   ·exact (E6 ⟨hk,b,a⟩ (e d)).2
   have hok:=T.HU hk b a hj h1
   have c:=e d
   rw [ya (λh=>a h.2.2)] at c
   exact (YE ((D.fl k j o hk b hj h1).resolve_right a) hok (show cZ P Γ C o ⟨(sts k).fr,(sts k).h⟩=_ from c) (sts k).h λ_ _ _=>rfl).1
theorem Trc.sameFs (T:Trc P Γ C ops ord nF nA S sts ps gs) (D:DCtx Γ ops ord nF nA): ∀(d k:Nat),nF<=k->k+d<=nA->(sts (k+d)).h=(sts k).h
 | 0,k,_,_=>rfl
 | d+1,k,h,h2=>by
   have a:=D.len
   obtain ⟨j,hj⟩:=T.at (k:=k+d) (by omega)
   rw [<-T.sameFs D d k h (by omega)]
   exact T.sameF D (k:=k+d) (by omega) (by omega) hj
theorem Trc.prot (T:Trc P Γ C ops ord nF nA S sts ps gs) (D:DCtx Γ ops ord nF nA) {q:Nat} (g:q∈S.1) (e:S.2=true->isRw (getOb (sts nA).h q)=false) (c:q < (sts nA).h.length) (a: ∀d,nA+d<=ord.length->(sts nA).h.length<=(sts (nA+d)).h.length): ∀d,nA+d<=ord.length->getOb (sts (nA+d)).h q=getOb (sts nA).h q
 | 0,_=>rfl
 | d+1,h=>by
   obtain ⟨j,hj⟩:=T.at (k:=nA+d) (by omega)
   obtain ⟨o,h1,_,i,l,_⟩:=T.step (nA+d) j hj
   have ih:=T.prot D g e c a d (by omega)
   rw [<-ih]
   cases f:gs (nA+d) with
   | false=>exact congrArg (getOb · q) (l f).2
   | true=>
     have b:=i f
     rw [ya (λh=>by omega)] at b
     exact ZR g (hM c (a d (by omega))) (λh2=>by rw [ih];exact e h2) (T.NW D.le (by omega) hj h1) (show cZ P Γ C o ⟨(sts (nA+d)).fr,(sts (nA+d)).h⟩=_ from b)
theorem Trc.sub (T:Trc P Γ C ops ord nF nA S sts ps gs) (D:DCtx Γ ops ord nF nA): ∀(d k:Nat),k+d<=nA->SubH (sts k).h (sts (k+d)).h
 | 0,k,h=> .refl _
 | d+1,k,h=>by
   have g:=D.len
   obtain ⟨j,hj⟩:=T.at (k:=k+d) (by omega)
   obtain ⟨o,h1,_,e,f,_⟩:=T.step (k+d) j hj
   refine (T.sub D d k (by omega)).trans ?_
   cases c:gs (k+d) with
   | true=>
     have a:=e c
     by_cases b:nF<=k+d/\k+d < nA/\allocB o=true
     ·show SubH _ (sts (k+d+1)).h
      rw [(E6 b a).2];exact .refl _
     ·rw [ya b] at a
      exact X6 (T.quiet D (by omega) hj h1) a
   | false=>show SubH _ (sts (k+d+1)).h;rw [(f c).2];exact .refl _
theorem Trc.mono (T:Trc P Γ C ops ord nF nA S sts ps gs): ∀(d k:Nat),k+d<=ord.length->Stay (sts k).h (sts (k+d)).h
 | 0,k,h=> .refl _
 | d+1,k,h=>by
   obtain ⟨j,hj⟩:=T.at (k:=k+d) (by omega)
   obtain ⟨o,h1,_,e,f,_⟩:=T.step (k+d) j hj
   refine (T.mono d k (by omega)).trans ?_
   cases c:gs (k+d) with
   | true=>
     have a:=e c
     by_cases b:nF<=k+d/\k+d < nA/\allocB o=true
     ·show Stay _ (sts (k+d+1)).h
      rw [(E6 b a).2];exact .refl _
     ·rw [ya b] at a
      exact qK a
   | false=>show Stay _ (sts (k+d+1)).h;rw [(f c).2];exact .refl _
end
open Classical in
 noncomputable def cur (ops:Array Oper) (ini fin:List PV) (listed:Array Bool) (t:Nat):PV:=
  if ∃(i:Nat) (oi:Oper),ops[i]? =some oi/\oi.dst=some t/\listed.getD i false=true then fin.getD t .undef else ini.getD t .undef
theorem RZ {ops:Array hT} {ini fin:List PV} {listed:Array Bool} {t:Nat} {i:Nat} {oi:hT} (h1:ops[i]? =some oi) (h2:oi.dst=some t) (a:listed.getD i false=true):cur ops ini fin listed t=fin.getD t .undef:=if_pos ⟨i,oi,h1,h2,a⟩
theorem E5 {ops:Array hT} {ini fin:List PV} {listed:Array Bool} {t:Nat} (h: ∀(i:Nat) (oi:hT),ops[i]? =some oi->oi.dst=some t->listed.getD i false=true->False):cur ops ini fin listed t=ini.getD t .undef:=if_neg λ⟨i,oi,h1,h2,a⟩=>h i oi h1 h2 a
theorem Inv.subH {w0:gf} {ok0:O0} {w:gf} {ok:Nat->Prop} {mu:Mu} {h H:List Ob} (i:Inv w0 ok0 w ok mu h) (d: ∀q,h.length<=q->mu q=none) (s:SubH h H):Inv w0 ok0 w ok mu H:=by
 have c: ∀{o pl},mu o=some pl->o < h.length:= λ{o pl} a=>by
  rcases hI o h.length with h1 | h1
  ·exact h1
  ·rw [d o h1] at a;cases a
 refine ⟨i.below,i.okw,i.okb,λo pl a=>(s.same o (c a)).jG (i.ob o pl a),λo pl b base a hb=> ?_,λo o' pl pl' b base base' a j hb k e f=> ?_⟩
 ·obtain ⟨h1,h2,l⟩:=i.own o pl b base a hb
  refine ⟨h1,h2,λe g=>l ?_ ?_⟩
  ·rw [<-(s.same o (c a)).live];exact e
  ·cases hx:(getOb h o).fz with
   | false=>rfl
   | true=>rw [(s.same o (c a)).fz hx] at g;cases g
 ·exact i.inj o o' pl pl' b base base' a j hb k (by rw [<-(s.same o (c a)).live];exact e) (by rw [<-(s.same o' (c j)).live];exact f)
theorem Inv.drawn {w0:gf} {ok0:O0} {w:gf} {ok:Nat->Prop} {mu:Mu} {h:List Ob} (i:Inv w0 ok0 w ok mu h) (d:Nat):Inv w0 ok0 { w with drawn:=d } ok mu h/\Later w ok mu { w with drawn:=d } ok mu:=by
 have hl:Later w ok mu { w with drawn:=d } ok mu:=⟨⟨λ_ _=>rfl,λ_ h=>h⟩,λ_ _ h=>h,λb c T z h=>⟨c,z,h,rfl⟩⟩
 exact ⟨⟨⟨i.below.os,i.below.tape,i.below.output,i.below.size,i.below.block⟩,i.okw,i.okb,λo pl a=>(i.ob o pl a).later hl λ_ _ _=>rfl,i.own,i.inj⟩,hl⟩
structure DInv (P:km) (ops:Array hT) (ord:List Nat) (nA:Nat) (sts:Nat->St) (w0:gf) (ok0:O0) (wS:gf) (okS:Nat->Prop) (muS:Mu) (aS:Act) (listed:Array Bool) (a:Act) (w:gf):Prop where
 size:listed.size=ops.size
 closed: ∀(j:Nat) (o:hT),ops[j]? =some o->listed.getD j false=true-> ∀e∈o.after,hF .any e=true->listed.getD e.on false=true
 tsize:a.tmps.size=(sts 0).fr.length
 defers:a.defers=aS.defers
 same: ∀t,t∉dsts ops.toList->a.tmps[t]? =aS.tmps[t]?
 ex: ∃(ok:Nat->Prop) (mu:Mu) (m:Nat),nA<=m/\m<=ord.length/\(∀(k j:Nat),nA<=k->ord[k]? =some j->(listed.getD j false=true↔k < m))/\Inv w0 ok0 w ok mu (sts m).h/\(∀o,(sts m).h.length<=o->mu o=none)/\
  (m=nA-> ∀o,mu o≠none->o < (sts 0).h.length\/ ∃k j:Nat,k < nA/\ord[k]? =some j/\listed.getD j false=true/\(sts k).h.length=o/\(sts (k+1)).h.length=o+1)/\
  (∀(t:Nat) (v:iH),a.tmps[t]? =some v->RP w ok mu (cur ops (sts 0).fr (sts ord.length).fr listed t) v)/\Later wS okS muS w ok mu
end Go.AM
namespace Go.AM
open Go.RowKit
section
variable {P:km} {Γ:hZ->Option FSig} {C:IV->List Nat->List (List IV)->Option (List IV)} {ops:Array hT} {ord:List Nat} {nF nA:Nat} {S:List Nat×Bool} {sts:Nat->St} {ps:Nat->PV} {gs:Nat->Bool}
 {w0:gf} {ok0:O0} {wS:gf} {okS:Nat->Prop} {muS:Mu} {aS:Act}
theorem DK {listed:Array Bool} (hc: ∀(j:Nat) (o:hT),ops[j]? =some o->listed.getD j false=true-> ∀e∈o.after,hF .any e=true->listed.getD e.on false=true) {j i:Nat} (p:Pre ops j i):listed.getD j false=true->listed.getD i false=true:=by
 induction p with
 | edge h he hb=>exact λhl=>hc _ _ h hl _ he hb
 | trans h he hb _ ih=>exact λhl=>ih (hc _ _ h hl _ he hb)
theorem QR {listed:Array Bool} (hc: ∀(j:Nat) (o:hT),ops[j]? =some o->listed.getD j false=true-> ∀e∈o.after,hF .any e=true->listed.getD e.on false=true) {j i:Nat} (hr: ∀o,ops[j]? =some o-> ∀e∈o.after,hF .any e=true->listed.getD e.on false=true) (p:Pre ops j i):listed.getD i false=true:=by
 cases p with
 | edge h he hb=>exact hr _ h _ he hb
 | trans h he hb q=>exact DK hc q (hr _ h _ he hb)
theorem jT {listed:Array Bool} {j i:Nat}:(listed.setIfInBounds j true).getD i false=true↔listed.getD i false=true\/(i=j/\j < listed.size):=by
 rw [gd,k0,gd]
 by_cases e:j=i
 ·subst e
  by_cases hl:j < listed.size
  ·simp [hl]
  ·simp [hl]
 ·simp [e,Ne.symm e]
theorem adr {listed:Array Bool} {ini fin:List PV} {j:Nat} {o:hT} (c:ops[j]? =some o) {t:Nat} (ht:o.dst≠some t):cur ops ini fin (listed.setIfInBounds j true) t=cur ops ini fin listed t:=by
 unfold cur
 congr 1
 apply propext
 constructor
 ·rintro ⟨i,oi,h1,h2,a⟩
  rcases jT.1 a with b | ⟨rfl,_⟩
  ·exact ⟨i,oi,h1,h2,b⟩
  ·rw [c] at h1;cases h1;exact absurd h2 ht
 ·rintro ⟨i,oi,h1,h2,a⟩
  exact ⟨i,oi,h1,h2,jT.2 (.inl a)⟩
theorem abg (T:Trc P Γ C ops ord nF nA S sts ps gs) (D:DCtx Γ ops ord nF nA) {listed:Array Bool} (hc: ∀(j:Nat) (o:hT),ops[j]? =some o->listed.getD j false=true-> ∀e∈o.after,hF .any e=true->listed.getD e.on false=true)
  {k j:Nat} {o:hT} (hk:ord[k]? =some j) (u:ops[j]? =some o) (l:listed.getD j false=false) (hr: ∀e∈o.after,hF .any e=true->listed.getD e.on false=true) {t:Nat} (ht:t∈o.looksAt ops):
  (sts k).fr.getD t .undef=cur ops (sts 0).fr (sts ord.length).fr listed t:=by
 have v:k < ord.length:=(fv.1 hk).1
 by_cases hw: ∃(i:Nat) (oi:hT),ops[i]? =some oi/\oi.dst=some t
 ·obtain ⟨i,oi,hi,p⟩:=hw
  obtain ⟨g,a⟩:=D.all i (e8.1 hi).1
  have uniq: ∀{n:Nat} {c:hT},ops[n]? =some c->c.dst=some t->n=i:= λh1 h2=>D.dst _ _ _ _ t h1 hi h2 p
  have early:k<=g->(sts k).fr.getD t .undef=(sts 0).fr.getD t .undef:= λhle=>T.ini k (by omega) λk' m o' h1 h2 b d=>by
   have:=uniq b d;subst this
   have:=D.nd k' g m h2 a;omega
  rcases D.look j o t i oi u ht hi p with h1 | h1 | h1
  ·subst h1
   have:=D.nd k g i hk a
   rw [early (by omega),E5 λn c h1 h2 b=>by have:=uniq h1 h2;subst this;rw [l] at b;cases b]
  ·have r:=QR hc (λo' h=>by rw [u] at h;cases h;exact hr) h1
   obtain ⟨s,q,f⟩:=h1.pos D k hk
   have:=D.nd s g i f a
   rw [RZ hi p r]
   exact (T.fin (ord.length - k) k (by omega) λk' m o' h1 h2 b d=>by
    have:=uniq b d;subst this
    have:=D.nd k' g m h2 a;omega).symm
  ·obtain ⟨s,q,f⟩:=h1.pos D g a
   have:=D.nd s k j f hk
   rw [early (by omega),E5 λn c h2 b d=>by
    have:=uniq h2 b;subst this
    have:=DK hc h1 d
    rw [l] at this;cases this]
 ·rw [E5 λi oi h1 h2 _=>hw ⟨i,oi,h1,h2⟩]
  exact T.ini k (by omega) λk' m o' h1 h2 b d=>hw ⟨m,o',b,d⟩
theorem Zr (T:Trc P Γ C ops ord nF nA S sts ps gs) (D:DCtx Γ ops ord nF nA) {k j:Nat} {o:hT} (hk:ord[k]? =some j) (a:ops[j]? =some o) {t:Nat} (ht:o.dst=some t) (hl:t < (sts 0).fr.length):(sts ord.length).fr.getD t .undef=ps k:=by
 have e:k < ord.length:=(fv.1 hk).1
 rw [T.fin (ord.length - (k+1)) (k+1) (by omega) λk' f o' h1 h2 b c=>by
  have:=D.dst _ _ _ _ t b a c ht;subst this
  have:=D.nd k' k f h2 hk;omega]
 obtain ⟨o',h1,_,_,_,d,_⟩:=T.step k j hk
 rw [a] at h1;cases h1
 rw [d,ht]
 exact Zy (by rw [T.len k (by omega)];exact hl)
def mask (l:List Nat) (fr:List PV):List PV:=(me fr.length).map λt=>if t∈l then fr.getD t .undef else .undef
theorem ZM {l:List Nat} {fr:List PV} {t:Nat} (ht:t∈l):(mask l fr).getD t .undef=fr.getD t .undef:=by
 unfold mask
 simp only [bd,hJ]
 by_cases hl:t < fr.length
 ·simp [hl,ht]
 ·simp [o1 hl]
theorem Tf {o:hT} {fr:List PV}: ∀x∈o.op.operands,ev fr x=ev (mask (o.looksAt ops) fr) x:=by
 intro x hx
 cases x with
 | tmp t=>
   have:t∈o.looksAt ops:=e5 _ (l0.2 ⟨.tmp t,by simpa using hx,rfl⟩)
   exact (ZM this).symm
 | _=>rfl
theorem abh {o:hT} {fr:List PV}:Xa o (mask (o.looksAt ops) fr)=Xa o fr:=by
 unfold Xa
 split
 ·rename_i c hop
  split
  ·rename_i hc
   split
   ·rename_i x l hl
    have hx:x∈o.op.operands:=by
     rw [hop]
     simp only [Op.operands,Call.operands]
     have:x∈c.args:=by have h2:x∈c.args.toList:=by rw [hl];simp
                       simpa using h2
     simp [this]
    rw [<-Tf (ops:=ops) (o:=o) x hx]
   ·rfl
  ·rfl
 ·rfl
theorem ade {w:gf} {ok:Nat->Prop} {mu:Mu} {l:List Nat} {fr:List PV} {tmps:Array iH} (hsz:fr.length=tmps.size) (h: ∀(t:Nat) (v:iH),t∈l->tmps[t]? =some v->RP w ok mu (fr.getD t .undef) v):Fr w ok mu (mask l fr) tmps:=by
 refine ⟨by simp [mask,hsz],λt p v h1 h2=> ?_⟩
 unfold mask at h1
 rw [hJ] at h1
 cases a:(me fr.length)[t]? with
 | none=>rw [a] at h1;cases h1
 | some u=>
   rw [a] at h1
   have hu:t=u:=by
    rcases hI t fr.length with b | b
    ·rw [List.getElem?_range b] at a;exact pf a
    ·rw [fH (by simpa using b)] at a;cases a
   subst hu
   simp only [pk,hR] at h1
   subst h1
   split
   ·exact h t v ‹_› h2
   ·exact .undef v
theorem UK {o:hT} {fr:List PV} {p:PV} (h:bsP P Γ C o fr=some p):bsP P Γ C o (mask (o.looksAt ops) fr)=some p:=by
 have: ∀x∈o.op.operands,ev (EF fr) x=ev (EF (mask (o.looksAt ops) fr)) x:=by
  have key: ∀(l:List PV) (t:Nat),(EF l).getD t .undef=(match l.getD t .undef with | .imm x=> .imm x | _=> .undef):=by
   intro l t
   unfold EF
   simp only [bd,hJ]
   cases l[t]? <;>rfl
  intro x hx
  have h1:=Tf (ops:=ops) (fr:=fr) x hx
  cases x with
  | tmp t=>simp only [ev] at h1 ⊢;rw [key,key,h1]
  | _=>rfl
 have h2:=Im (P:=P) (Γ:=Γ) (C:=C) (h:=[]) this
 unfold bsP at h ⊢
 unfold cZ at h2
 rw [<-h2]
 exact h
theorem YT (Y:aF P Γ) (hC:COK P C) (T:Trc P Γ C ops ord nF nA S sts ps gs) (hS:S.2=true-> ∀q∈S.1,isRw (getOb (sts nF).h q)=false) (D:DCtx Γ ops ord nF nA) {Q:rl->Act->gf->Prop} {listed:Array Bool} {a:Act} {w:gf} (I:DInv P ops ord nA sts w0 ok0 wS okS muS aS listed a w) {j:Nat} (hj:j∈kt .any ops listed):
  wpOp P ops Q j (DInv P ops ord nA sts w0 ok0 wS okS muS aS (listed.setIfInBounds j true)) a w:=by
 obtain ⟨a2,o,E,hr⟩:=mem_ready.1 hj
 have K:j < ops.size:=(e8.1 E).1
 have al:listed.getD j false=false:=by
  rw [gd,b2 (by rw [I.size];exact K)] at a2 ⊢
  exact a2
 obtain ⟨k,hk⟩:=D.all j K
 have e6:k < ord.length:=(fv.1 hk).1
 have eZ:=D.len
 obtain ⟨o',U,hg,d9,d8,e4,d3⟩:=T.step k j hk
 rw [E] at U;cases U
 obtain ⟨ok,mu,m,O,be,hB,hinv,c,aT,ao,ac⟩:=I.ex
 have N: ∀(t:Nat) (v:iH),t∈o.looksAt ops->a.tmps[t]? =some v->RP w ok mu ((sts k).fr.getD t .undef) v:= λt v ht hv=>by
  rw [abg T D I.closed hk E al hr ht];exact ao t v hv
 have a1:(sts k).fr.length=a.tmps.size:=by rw [T.len k (by omega),I.tsize]
 have bi:=Hq (a:=a) (w:=w) (ok:=ok) (mu:=mu) hg (λs v hs hv=>N s v (b7 _ (by
  unfold Option.bind at hs
  cases bO:o.guard with
  | none=>rw [bO] at hs;cases hs
  | some gw=>rw [bO] at hs;simp only [Option.mem_toList];exact hs)) hv) a1
 have keep: ∀(v:iH) (w':gf) (ok':Nat->Prop) (mu':Mu) (G:Nat),nA<=G->G<=ord.length->(∀(k' n:Nat),nA<=k'->ord[k']? =some n->((listed.setIfInBounds j true).getD n false=true↔k' < G))->Inv w0 ok0 w' ok' mu' (sts G).h->(∀q,(sts G).h.length<=q->mu' q=none)->
   (G=nA-> ∀q,mu' q≠none->q < (sts 0).h.length\/ ∃k' n:Nat,k' < nA/\ord[k']? =some n/\(listed.setIfInBounds j true).getD n false=true/\(sts k').h.length=q/\(sts (k'+1)).h.length=q+1)->
   Later w ok mu w' ok' mu'->RP w' ok' mu' (ps k) v->DInv P ops ord nA sts w0 ok0 wS okS muS aS (listed.setIfInBounds j true) (a.put o.dst v) w':=by
  intro v w' ok' mu' G c1 c2 c3 c4 c5 c6 c7 c8
  refine ⟨by simp [I.size],λi oi hi hl e he hb=> ?_,?_,by rw [rO,I.defers],λt ht=> ?_,ok',mu',G,c1,c2,c3,c4,c5,c6,λt u hu=> ?_,ac.trans c7⟩
  ·rcases jT.1 hl with h1 | ⟨rfl,_⟩
   ·exact jT.2 (.inl (I.closed i oi hi h1 e he hb))
   ·rw [E] at hi;cases hi
    exact jT.2 (.inl (hr e he hb))
  ·rw [<-I.tsize];cases o.dst<;>simp [Act.put]
  ·rw [F7 λe=>ht (l0.2 ⟨o,by simpa using Array.mem_of_getElem? E,e⟩),I.same t ht]
  ·by_cases hd:o.dst=some t
   ·have cd:t < a.tmps.size:=by
     have:=(e8.1 hu).1
     rw [hd] at this
     simpa [Act.put] using this
    have eg:u=v:=by
     rw [hd] at hu
     simp [Act.put,k0,cd] at hu
     exact hu.symm
    subst eg
    rw [RZ E hd (jT.2 (.inr ⟨rfl,by rw [I.size];exact K⟩)),Zr T D hk E hd (by rw [<-I.tsize];exact cd)]
    exact c8
   ·rw [F7 hd] at hu
    rw [adr E hd]
    exact (ao t u hu).later c7
 have l: ∀G,(∀(k' n:Nat),nA<=k'->ord[k']? =some n->k'≠k->(k' < G↔k' < m))->(nA<=k->k < G)-> ∀(k' n:Nat),nA<=k'->ord[k']? =some n->((listed.setIfInBounds j true).getD n false=true↔k' < G):=by
  intro G h1 h2 k' n a8 J
  rw [jT]
  by_cases e:k'=k
  ·subst e
   rw [hk] at J;cases J
   exact ⟨λ_=>h2 a8,λ_=> .inr ⟨rfl,by rw [I.size];exact K⟩⟩
  ·rw [h1 k' n a8 J e,<-hB k' n a8 J]
   constructor
   ·rintro (h | ⟨rfl,_⟩)
    ·exact h
    ·exact absurd (D.nd k' k n J hk) e
   ·exact .inl
 have z:(m=nA-> ∀q,mu q≠none->q < (sts 0).h.length\/ ∃k' n:Nat,k' < nA/\ord[k']? =some n/\(listed.setIfInBounds j true).getD n false=true/\(sts k').h.length=q/\(sts (k'+1)).h.length=q+1):= λhm q r=>by
  rcases aT hm q r with h1 | ⟨k',n,h1,h2,h3,h4,h5⟩
  ·exact .inl h1
  ·exact .inr ⟨k',n,h1,h2,jT.2 (.inl h3),h4,h5⟩
 have A: ∀b jb,nA<=b->ord[b]? =some jb->(listed.getD jb false=true\/jb=j)-> ∀k' i,(k' < nF\/nA<=k')->k' < b->ord[k']? =some i->listed.getD i false=true:=by
  intro b jb co cO c0 k' i h1 h2 h3
  have hp:=D.wait b jb co cO k' i h1 h2 h3
  rcases c0 with h4 | rfl
  ·exact DK I.closed hp h4
  ·exact QR I.closed (λo' U=>by rw [E] at U;cases U;exact hr) hp
 have aB:nA<=k->k=m:= λhle=>by
  rcases Nat.lt_trichotomy k m with h1 | h1 | h1
  ·have:=(hB k j hle hk).2 h1
   rw [al] at this;cases this
  ·exact h1
  ·obtain ⟨jm,b0⟩:=T.at (k:=m) (by omega)
   have:=A k j hle hk (.inr rfl) m jm (.inr O) h1 b0
   have:=(hB m jm O b0).1 this
   omega
 unfold wpOp
 rw [E]
 simp only [bi]
 cases bR:gs k with
 | false=>
   obtain ⟨hp,hh⟩:=d8 bR
   simp only [hU,if_false]
   rcases hI k nA with y | a5
   ·exact keep undef w ok mu m O be (l m (λ_ _ _ _ _=> .rfl) (λh=>by omega)) hinv c z (.refl _ _ _) (by rw [hp];exact .skip)
   ·have bb:=aB a5
    subst bb
    exact keep undef w ok mu (k+1) (by omega) (by omega) (l (k+1) (λk' _ _ _ h=>by omega) (λ_=>by omega)) (by rw [hh];exact hinv) (by rw [hh];exact c) (λh=>by omega) (.refl _ _ _) (by rw [hp];exact .skip)
 | true=>
   simp only [if_true]
   left
   have F:=d9 bR
   have f:Fr w ok mu (mask (o.looksAt ops) (sts k).fr) a.tmps:=ade a1 N
   have bf: ∀H,cZ P Γ C o ⟨mask (o.looksAt ops) (sts k).fr,H⟩=cZ P Γ C o ⟨(sts k).fr,H⟩:= λH=>(Im Tf).symm
   rcases hI k nA with y | a5
   ·have r:=T.quiet D y hk E
    have dq:(sts k).h.length<=(sts (k+1)).h.length:=(T.mono 1 k (by omega)).len
    have d6:cJ Γ o=true\/(XW o=true/\Xa o (mask (o.looksAt ops) (sts k).fr)=true):=r.imp id λh=>⟨h.1,by rw [abh];exact h.2⟩
    by_cases hm:m=nA
    ·subst hm
     have a0:=T.sub D (m - k) k (by omega)
     have p:=T.sub D (m - (k+1)) (k+1) (by omega)
     rw [show k+(m - k)=m by omega] at a0
     rw [show k+1+(m - (k+1))=m by omega] at p
     have iq:InvQ w ok mu (sts k).h:=by
      refine ⟨hinv.okw,λq pl r=> ?_,λq pl b base h1 h2=>(hinv.own q pl b base h1 h2).2.1⟩
      rcases hI q (sts k).h.length with h1 | h1
      ·exact (a0.same q h1).okL (hinv.ob q pl r)
      ·have:getOb (sts k).h q= .dead:=by unfold getOb;rw [bd,fH h1];rfl
       rw [this];trivial
     have R:(sts (k+1)).h.length≠(sts k).h.length->mu (sts k).h.length=none:= λb4=>by
      cases d1:mu (sts k).h.length with
      | none=>rfl
      | some pl=>
        rcases aT rfl _ (by rw [d1];simp) with h1 | ⟨k',n,h1,h2,h3,h4,h5⟩
        ·have:=(T.mono k 0 (by omega)).len
         rw [j2] at this
         omega
        ·have b5:k'≠k:= λe=>by
          subst e
          rw [hk] at h2;cases h2
          rw [al] at h3;cases h3
         rcases Nat.lt_or_gt_of_ne b5 with h6 | h6
         ·have:=(T.mono (k - (k'+1)) (k'+1) (by omega)).len
          rw [show k'+1+(k - (k'+1))=k by omega] at this
          omega
         ·have:=(T.mono (k' - (k+1)) (k+1) (by omega)).len
          rw [show k+1+(k' - (k+1))=k' by omega] at this
          omega
     have V:aI P o a w ok mu (sts k).h (ps k) (sts (k+1)).h:=by
      by_cases x:nF<=k/\k < m/\allocB o=true
      ·obtain ⟨hb,hh⟩:=E6 x F
       rw [hh]
       exact adW Y hC x.2.2 (UK hb) f iq
      ·rw [ya x] at F
       exact adS (st:=⟨mask (o.looksAt ops) (sts k).fr,(sts k).h⟩) Y hC (by rw [bf];exact F) d6 f iq R
     obtain ⟨news,fz,h1,bM,hh,a3⟩:=V
     have M:=(fp bM).len
     refine a3 _ _ λv w' a6=> ?_
     obtain ⟨ok',mu',g⟩:=a6
     have ca:news≠[]->mu (sts k).h.length=none:= λb4=>R (by
      rw [hh,hG,M]
      have:0 < news.length:=List.length_pos_iff.2 b4
      omega)
     have b1:=g.later' hinv.okw ca
     have X:SubH h1 (sts m).h:=by
      have:SubH h1 (h1++news):= .append _ _
      rw [<-hh] at this
      exact this.trans p
     have a7:=hinv.growAt ca g (λq r=>by
      have a4:=(fp bM).mem q r
      have b3:q < h1.length:=l9 (by cases hx:getOb h1 q<;>rw [hx] at a4<;>first | rfl | cases a4)
      exact (X.same q b3).fz a4) (λob d2=>by
      subst d2
      have h9:(sts k).h.length < (sts (k+1)).h.length:=by rw [hh,hG,M];simp
      have cl:getOb (sts (k+1)).h (sts k).h.length=ob:=by
       rw [hh,aE,if_neg (by omega),M,Nat.sub_self];rfl
      have:=p.same (sts k).h.length h9
      rw [cl] at this
      exact this)
     refine keep v w' ok' mu' m (by omega) (by omega) (l m (λ_ _ _ _ _=> .rfl) (λh=>by omega)) a7 (λq r=> ?_) (λ_ q r=> ?_) b1 g.rp
     ·by_cases e:q=(sts k).h.length
      ·rcases g.obs with ⟨_,Z⟩ | ⟨ob,pl,Z,_⟩
       ·rw [e,Z,<-e];exact c q r
       ·exfalso
        have h9:(sts k).h.length < (sts (k+1)).h.length:=by rw [hh,Z,hG,M];simp
        have:=p.len
        omega
      ·rw [g.same q e];exact c q r
     ·by_cases e:q=(sts k).h.length
      ·rcases g.obs with ⟨_,Z⟩ | ⟨ob,pl,Z,_⟩
       ·rw [e,Z,<-e] at r
        exact z rfl q r
       ·exact .inr ⟨k,j,y,hk,jT.2 (.inr ⟨rfl,by rw [I.size];exact K⟩),e.symm,by rw [hh,Z,hG,M,e];rfl⟩
      ·rw [g.same q e] at r
       exact z rfl q r
    ·have dO:nA < m:=by omega
     obtain ⟨jA,bY⟩:=T.at (k:=nA) (by omega)
     have dl:=(hB nA jA (hO _) bY).2 dO
     have L:nF<=k:=by
      rcases hI k nF with h1 | h1
      ·have:=A nA jA (hO _) bY (.inl dl) k j (.inl h1) y hk
       rw [al] at this;cases this
      ·exact h1
     have ab:=D.fl k j o L y hk E
     have c9:(sts nA).h=(sts k).h:=by
      have e2:=T.sameFs D (nA - k) k L (by omega)
      rwa [show k+(nA - k)=nA by omega] at e2
     have dd:(sts nA).h=(sts nF).h:=by
      have e2:=T.sameFs D (nA - nF) nF (hO _) (by omega)
      rwa [show nF+(nA - nF)=nA by omega] at e2
     have a9: ∀q∈S.1,q < (sts k).h.length->getOb (sts m).h q=getOb (sts k).h q:= λq r d5=>by
      have Z:=T.prot D r (λh2=>by rw [dd];exact hS h2 q r) (by rw [c9];exact d5) (λd hd=>(T.mono d nA hd).len) (m - nA) (by omega)
      rw [show nA+(m - nA)=m by omega] at Z
      have e2:=T.sameFs D (nA - k) k L (by omega)
      rw [show k+(nA - k)=nA by omega] at e2
      rw [Z,e2]
     by_cases x:nF<=k/\k < nA/\allocB o=true
     ·obtain ⟨hb,hh⟩:=E6 x F
      have V:=(adW Y hC x.2.2 (UK hb) f hinv.q).m hinv c
      refine V _ _ λv w' W=> ?_
      obtain ⟨ok',mu',g1,g2,g3,g4⟩:=W
      exact keep v w' ok' mu' m O be (l m (λ_ _ _ _ _=> .rfl) (λh=>by omega)) g2 g4 (λh=>absurd h hm) g1 g3
     have am: ¬allocB o=true:= λh=>x ⟨L,y,h⟩
     have ab:=ab.resolve_right am
     have cc:=T.HU L y am hk E
     have hs:=F
     rw [ya x] at hs
     have d4:cJ Γ o=true:=ab.elim IE Mf
     obtain ⟨hh,d7⟩:(sts (k+1)).h=(sts k).h/\cZ P Γ C o ⟨(sts k).fr,(sts m).h⟩=some (ps k,(sts m).h):=by
      exact YE ab cc (show cZ P Γ C o ⟨(sts k).fr,(sts k).h⟩=_ from hs) (sts m).h a9
     have V:=(S6 (st:=⟨mask (o.looksAt ops) (sts k).fr,(sts m).h⟩) Y hC (by rw [bf];exact d7) d4 f hinv.q (λh=>absurd rfl h)).m hinv c
     refine V _ _ λv w' W=> ?_
     obtain ⟨ok',mu',g1,g2,g3,g4⟩:=W
     exact keep v w' ok' mu' m O be (l m (λ_ _ _ _ _=> .rfl) (λh=>by omega)) g2 g4 (λh=>absurd h hm) g1 g3
   ·have bb:=aB a5
    subst bb
    have hs:=F
    rw [ya (λh=>by omega)] at hs
    have d0:=Xs (st:=⟨mask (o.looksAt ops) (sts k).fr,(sts k).h⟩) (w0:=w0) (ok0:=ok0) Y hC (by rw [bf];exact hs) f hinv c
    refine d0 _ _ λv w' W=> ?_
    obtain ⟨ok',mu',g1,g2,g3,g4⟩:=W
    exact keep v w' ok' mu' (k+1) (by omega) (by omega) (l (k+1) (λk' _ _ _ h=>by omega) (λ_=>by omega)) g2 g4 (λh=>by omega) g1 g3
end
end Go.AM
namespace Go.AM
open Go.RowKit
section
variable {P:km} {Γ:hZ->Option FSig} {C:IV->List Nat->List (List IV)->Option (List IV)} {ops:Array hT} {ord:List Nat} {nF nA:Nat} {S:List Nat×Bool} {sts:Nat->St} {ps:Nat->PV} {gs:Nat->Bool}
 {w0:gf} {ok0:O0} {wS:gf} {okS:Nat->Prop} {muS:Mu} {aS:Act} {R:Type}
theorem QZ (T:Trc P Γ C ops ord nF nA S sts ps gs) (D:DCtx Γ ops ord nF nA) {listed:Array Bool} {a:Act} {w:gf} (I:DInv P ops ord nA sts w0 ok0 wS okS muS aS listed a w) (hsz:aS.tmps.size=(sts 0).fr.length) (hr:kt .any ops listed=[]):
  ∃ok mu,Cfg w0 ok0 w ok mu (sts ord.length) a/\Step wS okS muS (sts 0).h aS w ok mu (sts ord.length).h a (dsts ops.toList):=by
 have d: ∀k,∀k' j:Nat,k' < k->ord[k']? =some j->listed.getD j false=true:=by
  intro k
  induction k with
  | zero=>intro k' j h;omega
  | succ k ih=>
    intro k' j hk hj
    by_cases e:k'=k
    ·subst e
     obtain ⟨o,s,_⟩:=T.step k' j hj
     have n:j < listed.size:=by rw [I.size];exact (e8.1 s).1
     cases hl:listed.getD j false with
     | true=>rfl
     | false=>
       have:j∈kt .any ops listed:=by
        refine mem_ready.2 ⟨?_,o,s,λe he hb=> ?_⟩
        ·rw [gd,b2 n] at hl ⊢
         exact hl
        ·obtain ⟨G,h2,g⟩:=D.topo k' j o e hj s he hb
         exact ih G _ (by omega) g
       rw [hr] at this;cases this
    ·exact ih k' j (by omega) hj
 obtain ⟨ok,mu,m,r,E,z,hinv,b,_,f,c⟩:=I.ex
 have hm:m=ord.length:=by
  rcases hI m ord.length with h | h
  ·obtain ⟨j,hj⟩:=T.at h
   have:=(z m j r hj).1 (d (m+1) m j (by omega) hj)
   omega
  ·omega
 subst hm
 refine ⟨ok,mu,⟨hinv,b,?_,λt p v h1 h2=> ?_⟩,c,?_,I.defers,I.same,by rw [I.tsize,hsz]⟩
 ·rw [T.len _ (hO _),I.tsize]
 ·have hp:(sts ord.length).fr.getD t .undef=p:=by rw [bd,h1];rfl
  have g:=f t v h2
  have hc:cur ops (sts 0).fr (sts ord.length).fr listed t=p:=by
   by_cases hw: ∃(i:Nat) (oi:hT),ops[i]? =some oi/\oi.dst=some t
   ·obtain ⟨i,oi,hi,A⟩:=hw
    obtain ⟨u,q⟩:=D.all i (e8.1 hi).1
    rw [RZ hi A (d (u+1) u i (by omega) q),hp]
   ·rw [E5 λi oi x l _=>hw ⟨i,oi,x,l⟩,<-hp]
    exact (T.ini ord.length (hO _) λk' F o' _ _ l y=>hw ⟨F,o',l,y⟩).symm
  rw [hc] at g
  exact g
 ·have:=T.mono ord.length 0 (by omega)
  rwa [j2] at this
theorem abH (e:aF P Γ) (g:COK P C) (T:Trc P Γ C ops ord nF nA S sts ps gs) (i:S.2=true-> ∀q∈S.1,isRw (getOb (sts nF).h q)=false) (D:DCtx Γ ops ord nF nA) (hsz:aS.tmps.size=(sts 0).fr.length) {Q:rl->Act->gf->Prop}
  (f: ∀(a:Act) (w:gf) (ok:Nat->Prop) (mu:Mu),Cfg w0 ok0 w ok mu (sts ord.length) a->Step wS okS muS (sts 0).h aS w ok mu (sts ord.length).h a (dsts ops.toList)->Q .normal a w):
  ∀(fuel:Nat) (listed:Array Bool) (a:Act) (w:gf),listed.toList.count false=fuel->DInv P ops ord nA sts w0 ok0 wS okS muS aS listed a w->wpAny P .any ops Q fuel listed a w:=by
 intro fuel
 induction fuel with
 | zero=>
   intro listed a w c I
   have hr:kt .any ops listed=[]:=by
    cases h:kt .any ops listed with
    | nil=>rfl
    | cons j l=>
      have hj:j∈kt .any ops listed:=by rw [h];exact fc
      obtain ⟨h0,o,d,_⟩:=mem_ready.1 hj
      have b:j < listed.size:=by rw [I.size];exact (e8.1 d).1
      rw [gd,b2 b] at h0
      simp only [h7] at h0
      have:false∈listed.toList:=by rw [<-h0];exact (Array.mem_toList_iff).2 (l5 b)
      have:=List.count_pos_iff.2 this
      omega
   obtain ⟨ok,mu,h1,h2⟩:=QZ T D I hsz hr
   exact ⟨hr,f a w ok mu h1 h2⟩
 | succ fuel ih=>
   intro listed a w c I
   refine ⟨λhr=> ?_,λj hj=> ?_⟩
   ·obtain ⟨ok,mu,h1,h2⟩:=QZ T D I hsz hr
    exact f a w ok mu h1 h2
   ·refine wpOp_mono (λa' w' h=>ih _ a' w' ?_ h) (YT e g T i D I hj)
    obtain ⟨h0,o,d,_⟩:=mem_ready.1 hj
    have b:j < listed.size:=by rw [I.size];exact (e8.1 d).1
    rw [gd,b2 b] at h0
    simp only [h7] at h0
    have hl:j < listed.toList.length:=by simpa using b
    have h1:(listed.setIfInBounds j true).toList=listed.toList.set j true:=by simp
    rw [h1,List.count_set hl]
    have:listed.toList[j]=false:=by simpa using h0
    rw [this,c]
    simp
theorem Xo (g:aF P Γ) (p:COK P C) (hm:P.follows .mixedOrders=true) {id:Nat} {F A B:List Nat} (hok:K7 Γ ops F A B=true) {st:St} {k:St->Option R} {r:R} (hs:rY P Γ C (some (F,A,B)) ops st k=some r)
  {a:Act} {w:gf} {ok:Nat->Prop} {mu:Mu} (hc:Cfg w0 ok0 w ok mu st a) {Q:rl->Act->gf->Prop}
  (hk: ∀(e:St) (a':Act) (w':gf) (ok':Nat->Prop) (mu':Mu),k e=some r->Cfg w0 ok0 w' ok' mu' e a'->Step w ok mu st.h a w' ok' mu' e.h a' (dsts ops.toList)->Q .normal a' w'):(Code.region id ops true).wp P Q a w:=by
 have D:=UO hok
 have d: ∀j∈A++(F++B),j < ops.size:=by
  intro j hj
  obtain ⟨k,hk⟩:=n1.1 hj
  simp only [K7,cb] at hok
  have n:=hok.1.1.2
  have key: ∀(l:List Nat) (s:Nat),P8 ops s l=true-> ∀j∈l,j < ops.size:=by
   intro l
   induction l with
   | nil=>intro s _ j hj;cases hj
   | cons i l ih=>
     intro s h j hj
     simp only [P8,cb] at h
     rcases hV.1 hj with rfl | hj
     ·have h1:=h.1
      split at h1
      ·rename_i x;exact (e8.1 x).1
      ·cases h1
     ·exact ih _ h.2 j hj
  exact key _ _ n j hj
 obtain ⟨S,sts,ps,gs,h0,T,u,f⟩:=Nc (l:=B) (F:=F) (λj hj=>d j (b7 _ (b7 _ hj))) (λj hj=>d j (b7 _ (e5 _ hj))) A st (λj hj=>d j (e5 _ hj)) hs
 subst h0
 obtain ⟨hinv,hl⟩:=hc.inv.drawn (w.drawn+1)
 refine wp_region_any hm (abH g p T u D hc.fr.size.symm (w0:=w0) (ok0:=ok0) (wS:={ w with drawn:=w.drawn+1 }) (okS:=ok) (muS:=mu) (aS:=a) (λa' w' ok' mu' h1 h2=>hk _ a' w' ok' mu' f h1 ⟨hl.trans h2.later,h2.stay,h2.defers,h2.same,h2.size⟩) _ _ a _ (by simp) ?_)
 have b: ∀j,(Array.replicate ops.size false).getD j false=false:= λj=>by
  rw [gd]
  by_cases h:j < ops.size<;>simp [h]
 refine ⟨by simp,λj o _ h=>(by rw [b] at h;cases h),hc.fr.size.symm,rfl,λ_ _=>rfl,ok,mu,(A++F).length,hO _,D.len,λk' y h1 h2=>⟨λh=>(by rw [b] at h;cases h),λh=>by omega⟩,?_,λq m=> ?_,λ_ q m=> ?_,λt v hv=> ?_,.refl _ _ _⟩
 ·have c:=T.sub D (A++F).length 0 (by omega)
  rw [j2] at c
  exact hinv.subH hc.fresh c
 ·have:=(T.mono (A++F).length 0 (by have:=D.len;omega)).len
  rw [j2] at this
  exact hc.fresh q (by omega)
 ·left
  rcases hI q (sts 0).h.length with h | h
  ·exact h
  ·exact absurd (hc.fresh q h) m
 ·rw [E5 λi oi _ _ h=>by rw [b] at h;cases h]
  exact (hc.fr.at hv).later hl
theorem XP (c:aF P Γ) (d:COK P C) {id:Nat} {st:St} {k:St->Option R} {r:R} (hs:rY P Γ C none ops st k=some r)
  {a:Act} {w:gf} {ok:Nat->Prop} {mu:Mu} (hc:Cfg w0 ok0 w ok mu st a) {Q:rl->Act->gf->Prop}
  (hk: ∀(b:St) (a':Act) (w':gf) (ok':Nat->Prop) (mu':Mu),k b=some r->Cfg w0 ok0 w' ok' mu' b a'->Step w ok mu st.h a w' ok' mu' b.h a' (dsts ops.toList)->Q .normal a' w'):(Code.region id ops false).wp P Q a w:=
 wp_region_list (Hu c d ops.toList st a w ok mu hs hc hk)
end
end Go.AM
namespace Go.AM
open Go.RowKit
theorem RP.restrict {w w':gf} {ok ok':Nat->Prop} {mu mu' x:Mu} {p:PV} {v:iH} (r:RP w ok mu p v) (hm: ∀o,mu o≠none->x o=mu' o): ∀{v':iH},RP w' ok' mu' p v'->RP w' ok' x p v':=by
 induction r with
 | undef v=>exact λ{v'} r=>by cases r;exact .undef _
 | skip=>exact λ{v'} r=>by cases r;exact .skip
 | imm h=>exact λ{v'} r=>by cases r with | imm h=>exact .imm h
 | nils=>exact λ{v'} r=>by cases r;exact .nils _
 | agg cs vs hlen hrel ih=>
   intro v' r
   cases r with
   | agg _ vs' c d=>
     refine .agg _ _ c λi p v h1 h2=> ?_
     have hi:i < vs.size:=by rw [<-hlen];exact (fv.1 h1).1
     exact ih i p vs[i] h1 (b2 hi) (d i p v h1 h2)
 | tup cs vs hlen hrel ih=>
   intro v' r
   cases r with
   | tup _ vs' c d=>
     refine .tup _ _ c λi p v h1 h2=> ?_
     have hi:i < vs.size:=by rw [<-hlen];exact (fv.1 h1).1
     exact ih i p vs[i] h1 (b2 hi) (d i p v h1 h2)
 | buf o n a cap pl h1 h2 t z=>exact λ{v'} r=>by cases r with | buf _ _ a' cap' pl' f g m s=>exact .buf o n a' cap' pl' (by rw [hm o (by rw [h1];simp)];exact f) g m s
 | sub o l u a cap pl h1 h2 t z D=>exact λ{v'} r=>by cases r with | sub _ _ _ a' cap' pl' f g m s C=>exact .sub o l u a' cap' pl' (by rw [hm o (by rw [h1];simp)];exact f) g m s C
 | ptr o j pl b base h1 h2=>exact λ{v'} r=>by cases r with | ptr _ _ pl' b' base' f g=>exact .ptr o j pl' b' base' (by rw [hm o (by rw [h1];simp)];exact f) g
 | bptr o i j pl b base h1 h2=>exact λ{v'} r=>by cases r with | bptr _ _ _ pl' b' base' f g=>exact .bptr o i j pl' b' base' (by rw [hm o (by rw [h1];simp)];exact f) g
 | eptr es e i j b off vals h1 h2 t z=>exact λ{v'} r=>by cases r with | eptr _ A _ _ b' q k f g m s=>exact .eptr es A i j b' q k f g m s
 | iptr cs j0 j b off vals h1 h2 t=>exact λ{v'} r=>by cases r with | iptr _ _ _ b' q k f g m=>exact .iptr cs j0 j b' q k f g m
 | mp o pl b h1 h2 t=>exact λ{v'} r=>by cases r with | mp _ pl' b' f g m=>exact .mp o pl' b' (by rw [hm o (by rw [h1];simp)];exact f) g m
 | sn T n o pl v h1 h2=>exact λ{v'} r=>by cases r with | sn _ _ _ pl' _ f g=>exact .sn T n o pl' _ (by rw [hm o (by rw [h1];simp)];exact f) g
 | tnil=>exact λ{v'} r=>by cases r;exact .tnil
 | tbuf T o n pl v h1 h2 t=>exact λ{v'} r=>by cases r with | tbuf _ _ _ pl' _ f g m=>exact .tbuf T o n pl' _ (by rw [hm o (by rw [h1];simp)];exact f) g m
 | clo fn caps cv hlen hrel ih=>
   intro v' r
   cases r with
   | clo _ _ y c d=>
     refine .clo fn caps y c λi p v h1 h2=> ?_
     have hi:i < cv.size:=by rw [<-hlen];exact (fv.1 h1).1
     exact ih i p cv[i] h1 (b2 hi) (d i p v h1 h2)
def F6 (x y:Ob):Prop:=x.fz=y.fz/\((∃m a cs,x= .box m cs/\y= .box a cs)\/ ∃m a s z,x= .arr m s z/\y= .arr a s z)
theorem F6.live {x y:Ob} (h:F6 x y):y.live=true:=by
 obtain ⟨_,⟨m,a,cs,_,rfl⟩ | ⟨m,a,s,z,_,rfl⟩⟩:=h<;>rfl
theorem oY {x:Ob} (h:x.live=true):F6 (gj x) x:=by
 cases x with
 | dead=>cases h
 | box m cs=>cases m<;>exact ⟨rfl,.inl ⟨_,_,_,rfl,rfl⟩⟩
 | arr m s z=>cases m<;>exact ⟨rfl,.inr ⟨_,_,_,_,rfl,rfl⟩⟩
theorem F6.symm {x y:Ob} (h:F6 x y):F6 y x:=by
 obtain ⟨h1,⟨m,b,cs,h2,a⟩ | ⟨m,b,s,z,h2,a⟩⟩:=h
 ·exact ⟨h1.symm,.inl ⟨_,_,_,a,h2⟩⟩
 ·exact ⟨h1.symm,.inr ⟨_,_,_,_,a,h2⟩⟩
theorem mE (x:Ob):(gj x).live=x.live:=by
 cases x with
 | dead=>rfl
 | box m cs=>cases m<;>rfl
 | arr m s z=>cases m<;>rfl
theorem Cd (x:Ob):isRw (gj x)=false:=by
 cases x with
 | dead=>rfl
 | box m cs=>cases m<;>rfl
 | arr m s z=>cases m<;>rfl
theorem lR (h:List Ob) (o:Nat):getOb (h.map gj) o=gj (getOb h o):=by
 unfold getOb
 simp only [bd,hJ]
 cases h[o]? <;>rfl
theorem dV {x:Ob} (h:isRw x=true):x.live=true/\x.fz=false:=by
 cases x with
 | dead=>cases h
 | box m cs=>cases m<;>first | exact ⟨rfl,rfl⟩ | cases h
 | arr m s z=>cases m<;>first | exact ⟨rfl,rfl⟩ | cases h
section
variable {w0:gf} {ok0:O0} {w:gf} {ok:Nat->Prop} {mu:Mu} {h:List Ob} {a:Act}
theorem Fr.upd {fr:List PV} {tmps:Array iH} (r:Fr w ok mu fr tmps) {t:Nat} {p:PV} (hp: ∀v,tmps[t]? =some v->RP w ok mu p v):Fr w ok mu (fr.set t p) tmps:=by
 refine ⟨by simp [r.size],λu q x h1 h2=> ?_⟩
 by_cases e:t=u
 ·subst e
  rw [l4] at h1
  simp only [if_true] at h1
  split at h1
  ·cases h1;exact hp x h2
  ·cases h1
 ·rw [hY e] at h1
  exact r.rel u q x h1 h2
theorem LJ {w':gf} {ok':Nat->Prop} {mu':Mu} {L:St} {h1:List Ob} {fz:List Nat} {vs:List IV} (c:Cfg w0 ok0 w' ok' mu' L a) (hf:wh L.h fz=some h1):
  ∀(ks:List (Option Nat)) (caps:List PV) (d:List iH) (xs:List IV) (i:Nat) (H:List Ob) (M:Mu),M5 L.h ks caps=some xs->caps.length=d.length->(∀(j:Nat) (p:PV) (v:iH),caps[j]? =some p->d[j]? =some v->RP w' ok' mu' p v)->(∀j,j < xs.length->nth vs (i+j)=nth xs j)->dF (uK ks caps)=true->
   (∀o∈uK ks caps,isRw (getOb h1 o)=true/\ ∀pl b base G w f,mu' o=some pl->pl.loc=some (b,base)->M G=some w->w.loc=some (b,f)->(getOb H G).live=false)->Inv w0 ok0 w' (jG ok' mu' fz) M H->(∀q,H.length<=q->M q=none)->
   xs.length=Ee ks/\ ∃M2,Inv w0 ok0 w' (jG ok' mu' fz) M2 (H++qd vs ks i)/\(∀q,(H++qd vs ks i).length<=q->M2 q=none)/\Later w' (jG ok' mu' fz) M w' (jG ok' mu' fz) M2/\(pz vs ks i H.length).length=d.length/\(∀(j:Nat) (p:PV) (v:iH),(pz vs ks i H.length)[j]? =some p->d[j]? =some v->RP w' (jG ok' mu' fz) M2 p v)/\
     ∀o p,M2 o=some p->(o < H.length/\M o=some p)\/(H.length<=o/\ ∀b base,p.loc=some (b,base)-> ∃k∈uK ks caps,∃W bs,mu' k=some W/\W.loc=some (b,bs))
 | [],[],d,xs,i,H,M,hx,hl,hr,hv,m,l,N,z=>by
   simp only [M5,hR] at hx
   subst hx
   refine ⟨rfl,M,by simpa [qd] using N,by simpa [qd] using z,.refl _ _ _,by simpa [pz] using hl,λj p v h=>by simp [pz] at h,λo p ho=> .inl ⟨?_,ho⟩⟩
   rcases hI o H.length with g | g
   ·exact g
   ·rw [z o g] at ho;cases ho
 | [],_::_,d,xs,i,H,M,hx,hl,hr,hv,m,l,N,z=>by simp [M5] at hx
 | _::_,[],d,xs,i,H,M,hx,hl,hr,hv,m,l,N,z=>by simp [M5] at hx
 | k::ks,p::caps,d,xs,i,H,M,hx,hl,hr,hv,m,l,N,z=>by
   have iz:=c.inv.freeze c.fresh hf
   simp only [M5] at hx
   split at hx
   ·rename_i x0 y r E
    cases hx
    cases d with
    | nil=>simp at hl
    | cons v0 d=>
    have r0:=hr 0 p v0 rfl rfl
    have S: ∀(j:Nat) (p:PV) (v:iH),caps[j]? =some p->d[j]? =some v->RP w' ok' mu' p v:= λj p v h1 h2=>hr (j+1) p v (by simpa using h1) (by simpa using h2)
    have O:caps.length=d.length:=by simpa using hl
    have F: ∀n,x0.length=n-> ∀j,j < y.length->nth vs (i+n+j)=nth y j:= λn hn j hj=>by
     have:=hv (n+j) (by simp;omega)
     rw [show i+n+j=i+(n+j) by omega,this]
     unfold nth
     rw [bd,hD (by omega),bd]
     congr 2;omega
    have D: ∀j,j < x0.length->nth vs (i+j)=nth x0 j:= λj hj=>by
     rw [hv j (by simp;omega)]
     unfold nth
     rw [bd,ha hj,bd]
    unfold agu at r
    split at r
    ·rename_i x
     cases r
     have I:uK (none::ks) (PV.imm x::caps)=uK ks caps:=rfl
     rw [I] at m l
     obtain ⟨e1,M2,i2,X,Z,n2,p2,m2⟩:=LJ c hf ks caps d y (i+1) H M E O S (F 1 rfl) m l N z
     refine ⟨by simp [Ee,e1];omega,M2,i2,X,Z,by simp [pz,n2],λj q v h1 h2=> ?_,m2⟩
     cases j with
     | zero=>
       simp only [pz,m3,hR] at h1 h2
       subst h1;subst h2
       have h0:=D 0 (by simp)
       rw [j3] at h0
       rw [h0]
       cases r0 with
       | imm r0=>exact .imm (r0.more λb hb=> .inl hb)
     | succ j=>exact p2 j q v (by simpa [pz] using h1) (by simpa using h2)
    ·rename_i n o
     split at r
     ·rename_i cs hg
      split at r
      ·rename_i hn
       obtain ⟨bi,a0⟩:=Kz r
       have I:uK (some n::ks) (PV.ptr o 0::caps)=o::uK ks caps:=rfl
       rw [I] at m l
       simp only [dF,cb,hP,hE,decide_eq_false_iff_not] at m
       obtain ⟨a5,J⟩:=l o fc
       obtain ⟨P,a3⟩:=dV a5
       cases r0 with
       | ptr _ _ pl b base hm a2=>
         have Q:=c.inv.ob o pl hm
         rw [hg] at Q
         have R: ∀U,ObOk w' (jG ok' mu' fz) U pl (.box .rw (iR vs i n)):= λU=>by
          obtain ⟨b',base',cc,T,q1,q2,q3,q4⟩:=Q
          refine ⟨b',base',cc,T,q1,q2,by rw [dt];omega,λj p hj=> ?_⟩
          have a1:j < n:=by have:=(fv.1 hj).1;rw [dt] at this;exact this
          rw [tp vs i n j a1] at hj
          cases hj
          obtain ⟨p',A,s⟩:=a0 j (nth x0 j) (Kw (by omega))
          obtain ⟨u,q5,q6⟩:=q4 j p' A
          rw [D j (by omega)]
          exact ⟨u,q5,.imm ((s q6).more λb hb=> .inl hb)⟩
         obtain ⟨ia,fa,la⟩:=N.add z (ob:= .box .rw (iR vs i n)) (pl:=pl) (R _) (λb base hb=>by
          obtain ⟨A,s,C⟩:=iz.own o pl b base hm hb
          exact ⟨A,s,C P a3,λG w f Y g5=>J pl b base G w f hm hb Y g5⟩)
         have aB:(H++[Ob.box .rw (iR vs i n)]).length=H.length+1:=by simp
         obtain ⟨e1,M2,i2,X,Z,n2,p2,m2⟩:=LJ c hf ks caps d y (i+n) (H++[.box .rw (iR vs i n)]) _ E O S (F n (by omega)) m.2 (λK t=>⟨(l K (b6 _ t)).1,λV b base G w f A s C Y=>by
          by_cases e:G=H.length
          ·exfalso
           subst e;simp at C;subst C
           have:=iz.inj o K pl V b f base hm A Y s P (dV (l K (b6 _ t)).1).1
           subst this
           exact m.1 t
          ·simp only [e,if_false] at C
           have:=(l K (b6 _ t)).2 V b base G w f A s C Y
           rw [aE]
           split
           ·exact this
           ·rename_i bf
            exfalso;rw [z G (by omega)] at C;cases C⟩) ia fa
         have aT:H++[Ob.box .rw (iR vs i n)]++qd vs ks (i+n)=H++qd vs (some n::ks) i:=by simp [qd]
         rw [aT] at i2 X
         rw [aB] at n2 p2 m2
         refine ⟨by simp [Ee,e1];omega,M2,i2,X,la.trans Z,by simp [pz,n2],λj q v h1 h2=> ?_,λK p3 t=> ?_⟩
         ·cases j with
          | zero=>
            simp only [pz,m3,hR] at h1 h2
            subst h1;subst h2
            exact .ptr H.length 0 pl b base (Z.mu _ _ (by simp)) a2
          | succ j=>exact p2 j q v (by simpa [pz] using h1) (by simpa using h2)
         ·rcases m2 K p3 t with ⟨A,s⟩ | ⟨A,s⟩
          ·by_cases e:K=H.length
           ·subst e
            simp at s;subst s
            exact .inr ⟨hO _,λb base hb=>⟨o,fc,pl,base,hm,hb⟩⟩
           ·simp only [e,if_false] at s
            exact .inl ⟨by omega,s⟩
          ·refine .inr ⟨by omega,λb base hb=> ?_⟩
           obtain ⟨k,hk,h5⟩:=s b base hb
           exact ⟨k,b6 _ hk,h5⟩
      ·cases r
     ·cases r
    ·cases r
   ·cases hx
theorem yO {mu mu' a:Mu} {o:Nat} {h news:List Ob} (hk:o < h.length/\getOb h o= .dead/\ ∃pl,mu o=some pl/\mu' o=some pl) (hl: ∀o pl,mu o=some pl->a o=some pl):
  o < (h++news).length/\getOb (h++news) o= .dead/\ ∃pl,a o=some pl/\mu' o=some pl:=by
 obtain ⟨h1,h2,pl,b,c⟩:=hk
 exact ⟨by rw [hG];omega,by rw [aE,if_pos h1];exact h2,pl,hl o pl b,c⟩
theorem ur {st:St}: ∀{L:List (Nat×Kd)} {vs:List IV},pack st L=some vs-> ∀o∈wK L,o∈taken st L
 | [],_,_,o,a=>by cases a
 | (t,e)::L,vs,hp,o,a=>by
   simp only [pack] at hp
   split at hp
   ·rename_i x xs hx c
    have ih:=ur c
    cases e with
    | K q shp=>
      rcases hV.1 a with rfl | a
      ·simp only [pS] at hx
       split at hx
       ·split at hx
        ·obtain ⟨⟨f,os⟩,d,_⟩:=g0.1 hx
         simp only [taken,d]
         obtain ⟨_,h,b,hm⟩:=Cf d
         cases b
         exact e5 _ hm
        ·cases hx
       ·cases hx
      ·simp only [taken];exact b7 _ (ih o a)
    | I=>exact ih o a
    | S n=>exact ih o a
    | B sz=>simp only [taken];exact b7 _ (ih o a)
    | G n=>simp only [taken];exact b7 _ (ih o a)
    | M=>simp only [taken];exact b7 _ (ih o a)
    | O shp=>simp only [taken];exact b7 _ (ih o a)
    | C g ks=>simp only [taken];exact b7 _ (ih o a)
   ·cases hp
theorem iC {w':gf} {ok':Nat->Prop} {mu':Mu} {z:St} {h1:List Ob} {fz:List Nat} {vs:List IV} (c:Cfg w0 ok0 w' ok' mu' z a) (hf:wh z.h fz=some h1):
  ∀(L:List (Nat×Kd)) (i:Nat) (st:St) (mu:Mu) (vt:List IV),pack z L=some vt->(∀j,j < vt.length->nth vs (i+j)=nth vt j)->(∀q∈bq z L,q∈fz)->dF (taken z L)=true->
   (∀o∈taken z L,isRw (getOb h1 o)=true/\ ∀pl b base w l d,mu' o=some pl->pl.loc=some (b,base)->mu w=some l->l.loc=some (b,d)->(getOb st.h w).live=false)->Cfg w0 ok0 w' (jG ok' mu' fz) mu st a->(∀o∈wK L,o < st.h.length/\getOb st.h o= .dead/\ ∃pl,mu o=some pl/\mu' o=some pl)->
   ∃W,Cfg w0 ok0 w' (jG ok' mu' fz) W (unpack vs L i st) a/\ ∀o pl,mu o=some pl->W o=some pl
 | [],i,st,mu,vt,_,_,_,_,_,cs,_=>⟨mu,cs,λ_ _ h=>h⟩
 | (t,kd)::L,i,st,mu,vt,hp,hv,Y,F,f,cs,hK=>by
   have iz:=c.inv.freeze c.fresh hf
   have e9:=fp hf
   have fd:Later w' ok' mu' w' (jG ok' mu' fz) mu':=⟨⟨λ_ _=>rfl,λ_ h=> .inl h⟩,λ_ _ h=>h,.refl _⟩
   simp only [pack] at hp
   split at hp
   ·rename_i x xs hx a1
    cases hp
    have ab: ∀n,x.length=n-> ∀j,j < xs.length->nth vs (i+n+j)=nth xs j:= λn hn j hj=>by
     have:=hv (n+j) (by simp;omega)
     rw [show i+n+j=i+(n+j) by omega,this]
     unfold nth
     rw [bd,hD (by omega),bd]
     congr 2;omega
    have a4: ∀j,j < x.length->nth vs (i+j)=nth x j:= λj hj=>by
     rw [hv j (by simp;omega)]
     unfold nth
     rw [bd,ha hj,bd]
    cases kd with
    | I=>
      simp only [pS,g0] at hx
      obtain ⟨y,hy,rfl⟩:=hx
      simp only [bq,ki] at Y
      refine iC c hf L (i+1) _ mu xs a1 (ab 1 rfl) (λq hq=>Y q (.inr hq)) (by simpa [taken] using F) (by simpa [taken] using f) ⟨cs.inv,cs.fresh,cs.fr.upd λv s=> ?_⟩ hK
      have h0:=a4 0 (by simp)
      rw [j3] at h0
      rw [h0]
      exact .imm ((qZ c.inv.q 5 _ _ v hy (c.fr.at s)).more λb hb=>jG.sub (λq hq=>Y q (.inl hq)) hb)
    | S n=>
      simp only [pS] at hx
      split at hx
      ·rename_i ps D
       split at hx
       ·rename_i hn
        obtain ⟨hl,hg⟩:=gp hx
        simp only [bq,ki] at Y
        refine iC c hf L (i+n) _ mu xs a1 (ab n (by rw [hl,hn])) (λq hq=>Y q (.inr hq)) (by simpa [taken] using F) (by simpa [taken] using f) ⟨cs.inv,cs.fresh,cs.fr.upd λv s=> ?_⟩ hK
        have hr:=c.fr.at s
        rw [D] at hr
        cases hr with
        | agg _ us hlen hrel=>
          refine .agg _ _ (by rw [dt,<-hlen,hn]) λj p u h2 h3=> ?_
          have hj:j < n:=by have:=(fv.1 h2).1;rw [dt] at this;exact this
          rw [tp vs i n j hj] at h2
          cases h2
          obtain ⟨y,h4,h5⟩:=hg j ps[j] (g7 (by omega))
          have h6:nth vs (i+j)=y:=by rw [a4 j (by omega)];unfold nth;rw [bd,h4];rfl
          rw [h6]
          refine .imm ((qZ c.inv.q 5 _ _ u h5 (hrel j _ u (g7 (by omega)) h3)).more λb hb=>jG.sub (λq hq=>Y q (.inl ?_)) hb)
          rw [D]
          simp only [iM,PV.cells,o3]
          exact ⟨ps[j],pe _,hq⟩
       ·cases hx
      ·cases hx
    | B sz=>
      simp only [pS] at hx
      have X: ∀q∈bq z L,q∈fz:=by simpa [bq] using Y
      split at hx
      ·rename_i D
       split at hx
       case isFalse=>cases hx
       rename_i c0
       cases hx
       have h0:=a4 0 (by simp)
       rw [j3] at h0
       have aT:nth vs i= .lst []:=h0
       obtain ⟨ia,fa,la⟩:=cs.inv.add cs.fresh (ob:= .arr .rw sz (.lst [])) (pl:=⟨none,0,sz⟩) (.inl ⟨c0,rfl,[],rfl,rfl,by simp,λ_=>rfl,λb base hb=>by cases hb⟩) (λb base hb=>by cases hb)
       have ac:taken z ((t,Kd.B sz)::L)=taken z L:=by simp only [taken,D,List.nil_append]
       rw [ac] at F f
       obtain ⟨W,c2,e2⟩:=iC c hf L (i+1) ⟨st.fr.set t (.buf st.h.length (cj (nth vs i))),st.h++[.arr .rw sz (nth vs i)]⟩ _ xs a1 (ab 1 rfl) X F (λo V=>⟨(f o V).1,λpl b base w l d J N H U=>by
        by_cases e:w=st.h.length
        ·subst e;simp at H;subst H;cases U
        ·simp only [e,if_false] at H
         have:=(f o V).2 pl b base w l d J N H U
         rw [aE]
         split
         ·exact this
         ·rename_i b3
          exfalso;rw [cs.fresh w (by omega)] at H;cases H⟩)
        ⟨by rw [aT];exact ia,by rw [aT];exact fa,(cs.fr.later la).upd λv s=>by
          have hr:=c.fr.at s
          rw [D] at hr
          cases hr
          rw [aT]
          exact .buf st.h.length 0 _ 0 ⟨none,0,sz⟩ (by simp) rfl ⟨hO _,.inl ⟨rfl,rfl⟩⟩ (λb base hb=>by cases hb)⟩ λo V=>yO (hK o V) la.mu
       exact ⟨W,c2,λo pl V=>e2 o pl (la.mu o pl V)⟩
      ·rename_i o n D
       split at hx
       ·rename_i sz' y hg
        split at hx
        ·rename_i hsz
         cases hx
         subst hsz
         have h0:=a4 0 (by simp)
         rw [j3] at h0
         have aT:nth vs i=y:=h0
         have ac:taken z ((t,Kd.B sz')::L)=o::taken z L:=by simp only [taken,D];rfl
         rw [ac] at F f
         simp only [dF,cb,hP,hE,decide_eq_false_iff_not] at F
         obtain ⟨be,P⟩:=f o fc
         obtain ⟨R,bA⟩:=dV be
         by_cases al:t < a.tmps.size
         ·have s:a.tmps[t]? =some a.tmps[t]:=b2 al
          have hr:=c.fr.at s
          rw [D] at hr
          generalize a8:a.tmps[t]=v at hr s
          cases hr with
          | buf _ _ A cap pl hm hn hh hc=>
            have a0:=c.inv.ob o pl hm
            rw [hg] at a0
            have a7: ∀a9,ObOk w' (jG ok' mu' fz) a9 pl (.arr .rw sz' y):= λa9=>by
             obtain ⟨q1,es,q2,q3,q4,q5,q6⟩:=a0.arrC hc
             refine .inl ⟨a0.posC hc,q1,es,q2,q3,q4,q5,λb base hb=> ?_⟩
             obtain ⟨cc,T,q7,q8,q9⟩:=q6 b base hb
             refine ⟨cc,T,q7,q8,λi j e x he hx=> ?_⟩
             obtain ⟨u,eQ,eW⟩:=q9 i j e x he hx
             exact ⟨u,eQ,eW.more λb hb=> .inl hb⟩
            obtain ⟨ia,fa,la⟩:=cs.inv.add cs.fresh (ob:= .arr .rw sz' y) (pl:=pl) (a7 _) (λb base hb=>by
             obtain ⟨J,N,H⟩:=iz.own o pl b base hm hb
             exact ⟨J,N,H R bA,λw l d U g5=>P pl b base w l d hm hb U g5⟩)
            have hlen:cj (nth vs i)=n:=by
             obtain ⟨q1,es,q2,q3,_⟩:=a0.arrC hc
             rw [aT,q2,hn];exact q3
            obtain ⟨W,c2,e2⟩:=iC c hf L (i+1) ⟨st.fr.set t (.buf st.h.length (cj (nth vs i))),st.h++[.arr .rw sz' (nth vs i)]⟩ _ xs a1 (ab 1 rfl) X F.2 (λZ m=>⟨(f Z (b6 _ m)).1,λQ b base w l d J N H U=>by
             by_cases e:w=st.h.length
             ·exfalso
              subst e;simp at H;subst H
              have:=iz.inj o Z pl Q b d base hm J U N R (dV (f Z (b6 _ m)).1).1
              subst this
              exact F.1 m
             ·simp only [e,if_false] at H
              have:=(f Z (b6 _ m)).2 Q b base w l d J N H U
              rw [aE]
              split
              ·exact this
              ·rename_i b3
               exfalso;rw [cs.fresh w (by omega)] at H;cases H⟩)
             ⟨by rw [aT];exact ia,by rw [aT];exact fa,(cs.fr.later la).upd λu hu=>by
               rw [s] at hu;cases hu
               rw [hlen]
               exact .buf st.h.length n A cap pl (by simp) hn hh hc⟩ λo V=>yO (hK o V) la.mu
            exact ⟨W,c2,λo pl V=>e2 o pl (la.mu o pl V)⟩
         ·exfalso
          rw [bd,fH (by rw [c.fr.size];omega)] at D
          cases D
        ·cases hx
       ·cases hx
      ·cases hx
    | G n=>
      simp only [pS] at hx
      split at hx
      ·rename_i o D
       split at hx
       ·rename_i ps hg
        split at hx
        ·rename_i hn
         obtain ⟨hl,d7⟩:=gp hx
         have ac:taken z ((t,Kd.G n)::L)=o::taken z L:=by simp only [taken,D];rfl
         have d5:bq z ((t,Kd.G n)::L)=ps.flatMap (refs z.h 5)++bq z L:=by simp only [bq,D,hg]
         rw [ac] at F f
         rw [d5] at Y
         simp only [ki] at Y
         simp only [dF,cb,hP,hE,decide_eq_false_iff_not] at F
         obtain ⟨be,P⟩:=f o fc
         obtain ⟨R,bA⟩:=dV be
         by_cases al:t < a.tmps.size
         ·have s:a.tmps[t]? =some a.tmps[t]:=b2 al
          have hr:=c.fr.at s
          rw [D] at hr
          generalize a8:a.tmps[t]=v at hr s
          cases hr with
          | ptr _ _ pl b base hm bx=>
            have a0:=c.inv.ob o pl hm
            rw [hg] at a0
            have a7: ∀a9,ObOk w' (jG ok' mu' fz) a9 pl (.box .rw (iR vs i n)):= λa9=>by
             obtain ⟨b',base',cc,T,q1,q2,q3,q4⟩:=a0
             refine ⟨b',base',cc,T,q1,q2,by rw [dt];omega,λj p hj=> ?_⟩
             have d8:j < n:=by have:=(fv.1 hj).1;rw [dt] at this;exact this
             rw [tp vs i n j d8] at hj
             cases hj
             obtain ⟨u,q5,q6⟩:=q4 j ps[j] (g7 (by omega))
             obtain ⟨y,h4,h5⟩:=d7 j ps[j] (g7 (by omega))
             have h6:nth vs (i+j)=y:=by rw [a4 j (by omega)];unfold nth;rw [bd,h4];rfl
             rw [h6]
             exact ⟨u,q5,.imm ((qZ c.inv.q 5 _ _ u h5 q6).more λb hb=>jG.sub (λq hq=>Y q (.inl (o3.2 ⟨ps[j],pe _,hq⟩))) hb)⟩
            obtain ⟨ia,fa,la⟩:=cs.inv.add cs.fresh (ob:= .box .rw (iR vs i n)) (pl:=pl) (a7 _) (λb base hb=>by
             obtain ⟨J,N,H⟩:=iz.own o pl b base hm hb
             exact ⟨J,N,H R bA,λw l d U g5=>P pl b base w l d hm hb U g5⟩)
            obtain ⟨W,c2,e2⟩:=iC c hf L (i+n) ⟨st.fr.set t (.ptr st.h.length 0),st.h++[.box .rw (iR vs i n)]⟩ _ xs a1 (ab n (by rw [hl,hn])) (λq hq=>Y q (.inr hq)) F.2 (λZ m=>⟨(f Z (b6 _ m)).1,λQ b base w l d J N H U=>by
             by_cases e:w=st.h.length
             ·exfalso
              subst e;simp at H;subst H
              have:=iz.inj o Z pl Q b d base hm J U N R (dV (f Z (b6 _ m)).1).1
              subst this
              exact F.1 m
             ·simp only [e,if_false] at H
              have:=(f Z (b6 _ m)).2 Q b base w l d J N H U
              rw [aE]
              split
              ·exact this
              ·rename_i b3
               exfalso;rw [cs.fresh w (by omega)] at H;cases H⟩)
             ⟨ia,fa,(cs.fr.later la).upd λu hu=>by
               rw [s] at hu;cases hu
               exact .ptr st.h.length 0 pl b base (by simp) bx⟩ λo V=>yO (hK o V) la.mu
            exact ⟨W,c2,λo pl V=>e2 o pl (la.mu o pl V)⟩
         ·exfalso
          rw [bd,fH (by rw [c.fr.size];omega)] at D
          cases D
        ·cases hx
       ·cases hx
      ·cases hx
    | M=>
      simp only [pS] at hx
      have X: ∀q∈bq z L,q∈fz:=by simpa [bq] using Y
      split at hx
      ·rename_i o D
       split at hx
       ·rename_i sz y hg
        ·cases hx
         have h0:=a4 0 (by simp)
         rw [j3] at h0
         have aT:nth vs i=y:=h0
         have ac:taken z ((t,Kd.M)::L)=o::taken z L:=by simp only [taken,D];rfl
         rw [ac] at F f
         simp only [dF,cb,hP,hE,decide_eq_false_iff_not] at F
         obtain ⟨be,P⟩:=f o fc
         obtain ⟨R,bA⟩:=dV be
         by_cases al:t < a.tmps.size
         ·have s:a.tmps[t]? =some a.tmps[t]:=b2 al
          have hr:=c.fr.at s
          rw [D] at hr
          generalize a8:a.tmps[t]=v at hr s
          cases hr with
          | mp _ pl b hm bx b5=>
            have a0:=c.inv.ob o pl hm
            rw [hg] at a0
            obtain ⟨_,es,rfl,cO⟩:=a0.mapZ b5 bx
            have a7: ∀a9,ObOk w' (jG ok' mu' fz) a9 pl (.arr .rw 0 (.map es)):= λa9=>
             .inr ⟨b5,es,b,rfl,bx,cO.keeps ⟨λ_ _=>rfl,λb hb=> .inl hb⟩ rfl⟩
            obtain ⟨ia,fa,la⟩:=cs.inv.add cs.fresh (ob:= .arr .rw 0 (.map es)) (pl:=pl) (a7 _) (λb base hb=>by
             obtain ⟨J,N,H⟩:=iz.own o pl b base hm hb
             exact ⟨J,N,H R bA,λw l d U g5=>P pl b base w l d hm hb U g5⟩)
            obtain ⟨W,c2,e2⟩:=iC c hf L (i+1) ⟨st.fr.set t (.mp st.h.length),st.h++[.arr .rw 0 (nth vs i)]⟩ _ xs a1 (ab 1 rfl) X F.2 (λZ m=>⟨(f Z (b6 _ m)).1,λQ b base w l d J N H U=>by
             by_cases e:w=st.h.length
             ·exfalso
              subst e;simp at H;subst H
              have:=iz.inj o Z pl Q b d base hm J U N R (dV (f Z (b6 _ m)).1).1
              subst this
              exact F.1 m
             ·simp only [e,if_false] at H
              have:=(f Z (b6 _ m)).2 Q b base w l d J N H U
              rw [aE]
              split
              ·exact this
              ·rename_i b3
               exfalso;rw [cs.fresh w (by omega)] at H;cases H⟩)
             ⟨by rw [aT];exact ia,by rw [aT];exact fa,(cs.fr.later la).upd λu hu=>by
               rw [s] at hu;cases hu
               exact .mp st.h.length pl b (by simp) bx b5⟩ λo V=>yO (hK o V) la.mu
            exact ⟨W,c2,λo pl V=>e2 o pl (la.mu o pl V)⟩
         ·exfalso
          rw [bd,fH (by rw [c.fr.size];omega)] at D
          cases D
       ·cases hx
      ·cases hx
    | C g ks=>
      simp only [pS] at hx
      split at hx
      ·rename_i g' caps D
       split at hx
       ·rename_i d6
        subst d6
        have X: ∀q∈bq z L,q∈fz:=by simpa [bq] using Y
        have ac:taken z ((t,Kd.C g' ks)::L)=uK ks caps++taken z L:=by simp only [taken,D]
        rw [ac] at F f
        obtain ⟨a6,ao⟩:=nN F
        by_cases al:t < a.tmps.size
        ·have s:a.tmps[t]? =some a.tmps[t]:=b2 al
         have hr:=c.fr.at s
         rw [D] at hr
         generalize a8:a.tmps[t]=v at hr s
         cases hr with
         | clo _ _ cv hlen hrel=>
           obtain ⟨e1,M2,i2,f2,l2,n2,p2,m2⟩:=LJ c hf ks caps cv.toList x i st.h mu hx (by simpa using hlen) (λj p v h1 h2=>hrel j p v h1 (by simpa using h2)) a4 (Iu F) (λo V=>f o (e5 _ V)) cs.inv cs.fresh
           obtain ⟨W,c2,e2⟩:=iC c hf L (i+Ee ks) ⟨st.fr.set t (.clo (.func g') (pz vs ks i st.h.length)),st.h++qd vs ks i⟩ M2 xs a1 (ab _ e1) X a6 (λZ m=>⟨(f Z (b7 _ m)).1,λQ b base w l d J N H U=>by
            have a2:=(dV (f Z (b7 _ m)).1).1
            rcases m2 w l H with ⟨bb,br⟩ | ⟨_,am⟩
            ·rw [aE,if_pos bb]
             exact (f Z (b7 _ m)).2 Q b base w l d J N br U
            ·exfalso
             obtain ⟨k,hk,E,bs,k1,k2⟩:=am b d U
             have:=iz.inj k Z E Q b bs base k1 J k2 N (dV (f k (e5 _ hk)).1).1 a2
             subst this
             exact ao k hk m⟩)
            ⟨i2,f2,(cs.fr.later l2).upd λu hu=>by
              rw [s] at hu;cases hu
              exact .clo _ _ _ (by simpa using n2) λj p v h1 h2=>p2 j p v h1 (by simpa using h2)⟩ λo V=>yO (hK o V) l2.mu
           exact ⟨W,c2,λo pl V=>e2 o pl (l2.mu o pl V)⟩
        ·exfalso
         rw [bd,fH (by rw [c.fr.size];omega)] at D
         cases D
       ·cases hx
      ·cases hx
    | O shp=>
      simp only [pS,g0] at hx
      obtain ⟨⟨e7,os⟩,hy,rfl⟩:=hx
      obtain ⟨_,q,hq,_⟩:=Cf hy
      have X: ∀q∈bq z L,q∈fz:=by simpa [bq] using Y
      have ac:taken z ((t,Kd.O shp)::L)=os++taken z L:=by simp only [taken,hy]
      rw [ac] at F f
      obtain ⟨a6,ao⟩:=nN F
      rw [hq] at hy
      by_cases al:t < a.tmps.size
      ·have s:a.tmps[t]? =some a.tmps[t]:=b2 al
       have hr:=c.fr.at s
       rw [hq] at hr
       generalize a8:a.tmps[t]=v at hr s
       obtain ⟨pl,pA,hm,tv,hlen,be,aB,hA⟩:=xw c.inv hy hr
       have bB: ∀b,ok' b->jG ok' mu' fz b:= λb hb=> .inl hb
       have R: ∀k∈os,isRw (getOb h1 k)=true:= λk hk=>(f k (e5 _ hk)).1
       have P: ∀k∈os,∀pl b base w l d,mu' k=some pl->pl.loc=some (b,base)->mu w=some l->l.loc=some (b,d)->(getOb st.h w).live=false:= λk hk=>(f k (e5 _ hk)).2
       have ap: ∀b,ObjLoc shp pl pA b-> ∃k∈os,∃E base,mu' k=some E/\E.loc=some (b,base):= λb hb=>by
        rcases hb with ⟨base,hb⟩ | hb
        ·exact ⟨q,aB,pl,base,hm,hb⟩
        ·obtain ⟨k,hk,_,E,base,J,N⟩:=hA b hb
         exact ⟨k,hk,E,base,J,N⟩
       have bR: ∀b,ObjLoc shp pl pA b-> ¬jG ok' mu' fz b:= λb hb=>by
        obtain ⟨k,hk,E,base,J,N⟩:=ap b hb
        exact (iz.own k E b base J N).2.2 (dV (R k hk)).1 (dV (R k hk)).2
       obtain ⟨et,ib,fb,lb,mb,bm⟩:=cs.inv.addObj cs.fresh (r:=vs) (i0:=i) (tv.more bB bR) (λj hj=>a4 j (by rw [hlen];exact hj)) (λb hb=>by
        obtain ⟨k,hk,E,base,J,N⟩:=ap b hb
        obtain ⟨e1,e2,e3⟩:=iz.own k E b base J N
        exact ⟨e1,e2,λw l d U g5=>P k hk E b base w l d J N U g5⟩)
       have f3:(st.h++(cy vs shp i++[Ob.box .rw (cG (st.h.length+shp.length) vs shp st.h.length i)])).length=st.h.length+(shp.length+1):=by simp [lO]
       obtain ⟨W,c2,e2⟩:=iC c hf L (i+shp.length) ⟨st.fr.set t (.ptr (st.h.length+shp.length) 0),st.h++(cy vs shp i++[.box .rw (cG (st.h.length+shp.length) vs shp st.h.length i)])⟩ _ xs a1 (ab shp.length hlen) X a6 (λZ m=>⟨(f Z (b7 _ m)).1,λQ b base w l d J N H U=>by
        have a2:=(dV (f Z (b7 _ m)).1).1
        rcases bm w l H with ⟨bb,br⟩ | ⟨_,am⟩
        ·rw [aE,if_pos bb]
         exact (f Z (b7 _ m)).2 Q b base w l d J N br U
        ·exfalso
         obtain ⟨k,hk,E,bs,k1,k2⟩:=ap b (am b d U)
         have:=iz.inj k Z E Q b bs base k1 J k2 N (dV (R k hk)).1 a2
         subst this
         exact ao k hk m⟩)
        ⟨ib,fb,(cs.fr.later lb).upd λu hu=>by
          rw [s] at hu;cases hu
          obtain ⟨b,base,cc,T,hl,b4,_⟩:=tv.box
          rw [b4]
          exact .ptr (st.h.length+shp.length) 0 pl b base mb hl⟩ λo V=>yO (hK o V) lb.mu
       exact ⟨W,c2,λo pl V=>e2 o pl (lb.mu o pl V)⟩
      ·exfalso
       rw [bd,fH (by rw [c.fr.size];omega)] at hq
       cases hq
    | K o0 shp=>
      simp only [pS] at hx
      split at hx
      ·rename_i q hq
       split at hx
       ·rename_i ek
        subst ek
        obtain ⟨⟨e7,os⟩,hy,rfl⟩:=g0.1 hx
        have X: ∀q∈bq z L,q∈fz:=by simpa [bq] using Y
        have ac:taken z ((t,Kd.K q shp)::L)=os++taken z L:=by simp only [taken,hy]
        rw [ac] at F f
        obtain ⟨a6,ao⟩:=nN F
        obtain ⟨fs,f4,eP,bO,co⟩:=hK q fc
        by_cases al:t < a.tmps.size
        ·have s:a.tmps[t]? =some a.tmps[t]:=b2 al
         have hr:=c.fr.at s
         rw [hq] at hr
         generalize a8:a.tmps[t]=v at hr s
         obtain ⟨pl,pA,hm,tv,hlen,be,aB,hA⟩:=xw c.inv hy hr
         have dO:pl=eP:=pf (hm.symm.trans co)
         subst dO
         have bB: ∀b,ok' b->jG ok' mu' fz b:= λb hb=> .inl hb
         have R: ∀k∈os,isRw (getOb h1 k)=true:= λk hk=>(f k (e5 _ hk)).1
         have P: ∀k∈os,∀pl b base w l d,mu' k=some pl->pl.loc=some (b,base)->mu w=some l->l.loc=some (b,d)->(getOb st.h w).live=false:= λk hk=>(f k (e5 _ hk)).2
         have ap: ∀b,ObjLoc shp pl pA b-> ∃k∈os,∃E base,mu' k=some E/\E.loc=some (b,base):= λb hb=>by
          rcases hb with ⟨base,hb⟩ | hb
          ·exact ⟨q,aB,pl,base,hm,hb⟩
          ·obtain ⟨k,hk,_,E,base,J,N⟩:=hA b hb
           exact ⟨k,hk,E,base,J,N⟩
         have bR: ∀b,ObjLoc shp pl pA b-> ¬jG ok' mu' fz b:= λb hb=>by
          obtain ⟨k,hk,E,base,J,N⟩:=ap b hb
          exact (iz.own k E b base J N).2.2 (dV (R k hk)).1 (dV (R k hk)).2
         have e6:=tv.more bB bR
         obtain ⟨et,ib,fb,lb,cl,bm⟩:=cs.inv.addArrs cs.fresh (r:=vs) (i0:=i) e6 (λj hj=>a4 j (by rw [hlen];exact hj)) (λb hb=>by
          obtain ⟨k,hk,E,base,J,N⟩:=ap b hb
          obtain ⟨e1,e2,e3⟩:=iz.own k E b base J N
          exact ⟨e1,e2,λw l d U g5=>P k hk E b base w l d J N U g5⟩) bO
         have c8:q < (st.h++cy vs shp i).length:=by rw [hG];omega
         have bC: ∀w,w < st.h.length->getOb (st.h++cy vs shp i) w=getOb st.h w:= λw h=>by rw [aE,if_pos h]
         have ic:=ib.reviveK (lb.mu q pl bO) c8 cl (λb base hb=>bR b (.inl ⟨base,hb⟩)) (λb base w l d J N H U=>by
          rcases bm w l N with ⟨bb,g5⟩ | ⟨_,am⟩
          ·rw [bC w bb]
           exact P q aB pl b base w l d hm J g5 H
          ·exact absurd (am b d H) (tv.apart b base J))
         obtain ⟨W,c2,e2⟩:=iC c hf L (i+shp.length) ⟨st.fr.set t (.ptr q 0),(st.h++cy vs shp i).set q (.box .rw (cG q vs shp st.h.length i))⟩ _ xs a1 (ab shp.length hlen) X a6 (λZ m=>⟨(f Z (b7 _ m)).1,λQ b base w l d J N H U=>by
          have a2:=(dV (f Z (b7 _ m)).1).1
          by_cases e:w=q
          ·exfalso
           subst e
           rw [lb.mu w pl bO] at H;cases H
           have:=iz.inj w Z pl Q b d base hm J U N (dV (R w aB)).1 a2
           subst this
           exact ao w aB m
          ·rw [bz,if_neg (λh=>e h.1.symm)]
           rcases bm w l H with ⟨bb,br⟩ | ⟨_,am⟩
           ·rw [bC w bb]
            exact (f Z (b7 _ m)).2 Q b base w l d J N br U
           ·exfalso
            obtain ⟨k,hk,E,bs,k1,k2⟩:=ap b (.inr (am b d U))
            have:=iz.inj k Z E Q b bs base k1 J k2 N (dV (R k hk)).1 a2
            subst this
            exact ao k hk m⟩)
          ⟨ic,λq2 eg=>fb q2 (by rwa [n3] at eg),(cs.fr.later lb).upd λu hu=>by
            rw [s] at hu;cases hu
            obtain ⟨b,base,cc,T,hl,b4,_⟩:=tv.box
            rw [b4]
            exact .ptr q 0 pl b base (lb.mu q pl bO) hl⟩ λo V=>by
             have d9:q≠o:= λe=>by
              subst e
              exact ao q aB (ur a1 q V)
             obtain ⟨J,N,Q,H,U⟩:=yO (news:=cy vs shp i) (hK o (b6 _ V)) lb.mu
             exact ⟨by rw [n3];exact J,by rw [bz,if_neg (λh=>d9 h.1)];exact N,Q,H,U⟩
         exact ⟨W,c2,λo pl V=>e2 o pl (lb.mu o pl V)⟩
        ·exfalso
         rw [bd,fH (by rw [c.fr.size];omega)] at hq
         cases hq
       ·cases hx
      ·cases hx
   ·cases hp
end
end Go.AM
namespace Go.AM
open Go.RowKit
theorem Ey: ∀(W:List Nat) (fr:List PV) (t:Nat) (p:PV),t∈W->(forget fr W)[t]? =some p->p= .undef
 | [],fr,t,p,h,_=>by cases h
 | x::W,fr,t,p,h,hp=>by
   simp only [forget] at hp
   by_cases e:t∈W
   ·exact Ey W _ t p e hp
   ·have hx:t=x:=by
     rcases hV.1 h with h1 | h1
     ·exact h1
     ·exact absurd h1 e
    subst hx
    have keep: ∀(W:List Nat) (fr:List PV),t∉W->(forget fr W)[t]? =fr[t]? :=by
     intro W
     induction W with
     | nil=>intro fr _;rfl
     | cons y W ih=>
       intro fr hn
       simp only [hV,not_or] at hn
       simp only [forget]
       rw [ih _ hn.2,hY (Ne.symm hn.1)]
    rw [keep W _ e,l4] at hp
    simp only [if_true] at hp
    split at hp
    ·cases hp;rfl
    ·cases hp
theorem HZ: ∀(W:List Nat) (fr:List PV) (t:Nat),t∉W->(forget fr W)[t]? =fr[t]?
 | [],fr,t,_=>rfl
 | y::W,fr,t,hn=>by
   simp only [hV,not_or] at hn
   simp only [forget]
   rw [HZ W _ t hn.2,hY (Ne.symm hn.1)]
theorem Df: ∀(W:List Nat) (fr:List PV),(forget fr W).length=fr.length
 | [],_=>rfl
 | y::W,fr=>by simp only [forget];rw [Df W];simp
section
variable {w0:gf} {ok0:O0} {w w':gf} {ok ok':Nat->Prop} {mu mu':Mu} {h:List Ob} {a a':Act}
theorem Fr.turned {fr:List PV} {W:List Nat} (r:Fr w ok mu fr a.tmps) (hl:Later w ok mu w' ok' mu') (hs: ∀t,t∉W->a'.tmps[t]? =a.tmps[t]?) (hz:a'.tmps.size=a.tmps.size):Fr w' ok' mu' (AM.forget fr W) a'.tmps:=by
 refine ⟨by rw [Df,r.size,hz],λt p v h1 h2=> ?_⟩
 by_cases e:t∈W
 ·rw [Ey W fr t p e h1];exact .undef v
 ·rw [HZ W fr t e] at h1
  rw [hs t e] at h2
  exact (r.rel t p v h1 h2).later hl
theorem Inv.less (i:Inv w0 ok0 w ok mu h) {H:List Ob} (hs: ∀o,(getOb H o).live=true->(getOb h o).fz=true/\(getOb H o).fz=true/\F6 (getOb H o) (getOb h o)\/(∃m cs,getOb h o= .box m cs/\ ∃c,getOb H o= .box c cs/\((getOb H o).fz=false->(getOb h o).fz=false))\/(∃m s z,getOb h o= .arr m s z/\ ∃c,getOb H o= .arr c s z/\((getOb H o).fz=false->(getOb h o).fz=false))):Inv w0 ok0 w ok mu H:=by
 have d: ∀o,(getOb H o).live=true->(getOb h o).live=true:= λo h1=>by
  rcases hs o h1 with ⟨_,_,h2⟩ | ⟨m,cs,h2,_⟩ | ⟨m,s,z,h2,_⟩
  ·exact h2.live
  ·rw [h2];rfl
  ·rw [h2];rfl
 refine ⟨i.below,i.okw,i.okb,λo pl e=> ?_,λo pl b base e hb=> ?_,λo o' pl pl' b base base' e l hb k h1 h2=>i.inj o o' pl pl' b base base' e l hb k (d o h1) (d o' h2)⟩
 ·cases hx:(getOb H o).live with
  | false=>
    cases p:getOb H o with
    | dead=>trivial
    | box m cs=>rw [p] at hx;cases hx
    | arr m s z=>rw [p] at hx;cases hx
  | true=>
    have h0:=i.ob o pl e
    rcases hs o hx with ⟨_,_,_,⟨m,c,cs,h2,a⟩ | ⟨m,c,s,z,h2,a⟩⟩ | ⟨m,cs,h2,c,a,_⟩ | ⟨m,s,z,h2,c,a,_⟩
    ·rw [a] at h0;rw [h2];exact h0
    ·rw [a] at h0;rw [h2];exact h0
    ·rw [h2] at h0;rw [a];exact h0
    ·rw [h2] at h0;rw [a];exact h0
 ·obtain ⟨h1,h2,a⟩:=i.own o pl b base e hb
  refine ⟨h1,h2,λn g=>a (d o n) ?_⟩
  rcases hs o n with ⟨_,f,_⟩ | ⟨m,cs,f,c,_,j⟩ | ⟨m,s,z,f,c,_,j⟩
  ·rw [g] at f;cases f
  ·exact j g
  ·exact j g
theorem Inv.same (i:Inv w0 ok0 w ok mu h) {H:List Ob} (hs: ∀o,(getOb H o).live=true->F6 (getOb H o) (getOb h o)):Inv w0 ok0 w ok mu H:=
 i.less λo c=>by
   obtain ⟨h1,⟨m,b,cs,h2,a⟩ | ⟨m,b,s,z,h2,a⟩⟩:=hs o c
   ·exact .inr (.inl ⟨b,cs,a,m,h2,λh=>h1▸h⟩)
   ·exact .inr (.inr ⟨b,s,z,a,m,h2,λh=>h1▸h⟩)
theorem MP {J:gf} {okB:Nat->Prop} {a:Mu} {i:List PV} {base:List Ob} {M:Act} {W:List Nat} (B:Cfg w0 ok0 J okB a ⟨i,base⟩ M) (hW: ∀t p,t∈W->i[t]? =some p->p= .undef)
  {d:St} (c:Cfg w0 ok0 w' ok' mu' d a') (hl:Later J okB a w' ok' mu') (x: ∀t,t∉W->a'.tmps[t]? =M.tmps[t]?) (hsz:a'.tmps.size=M.tmps.size)
  {L:List (Nat×Kd)} {vs:List IV} {h1:List Ob} (hp:pack d L=some vs) (hf:wh d.h (bq d L)=some h1) (hm:m0 d h1 L=true)
  (hc: ∀o,(getOb base o).live=true->o∉taken d L/\F6 (getOb base o) (getOb h1 o)) (hK: ∀o∈wK L,o < base.length/\getOb base o= .dead/\ ∃pl,a o=some pl):
  ∃H k,Cfg w0 ok0 w' H k (unpack vs L 0 ⟨i,base⟩) a'/\Later J okB a w' H k:=by
 have y:=c.inv.freeze c.fresh hf
 simp only [m0,cb,g8] at hm
 have F:Later J okB a w' (jG ok' mu' (bq d L)) mu':=⟨⟨hl.keeps.block,λb hb=> .inl (hl.keeps.more b hb)⟩,hl.mu,hl.sizes⟩
 have w:Later J okB a w' (jG ok' mu' (bq d L)) a:=⟨F.keeps,λ_ _ h=>h,F.sizes⟩
 have E: ∀o,a o≠none->a o=mu' o:= λo f=>by
  cases hx:a o with
  | none=>exact absurd hx f
  | some pl=>exact (hl.mu o pl hx).symm
 have G:Cfg w0 ok0 w' (jG ok' mu' (bq d L)) a ⟨i,base⟩ a':=by
  refine ⟨⟨y.below,y.okw,y.okb,λo pl f=> ?_,λo pl b bs f hb=> ?_,λo o' pl pl' b bs A f S hb P h2 g=> ?_⟩,B.fresh,?_⟩
  ·have D:=B.inv.ob o pl f
   have hz:=y.ob o pl (hl.mu o pl f)
   cases hx:getOb base o with
   | dead=>trivial
   | arr m s z=>
     obtain ⟨_,_,g⟩:=hc o (by rw [hx];rfl)
     rw [hx] at g
     rcases g with ⟨U,V,cs,n,_⟩ | ⟨U,V,s',z',n,C⟩
     ·cases n
     ·cases n
      rw [C] at hz
      exact hz
   | box m cs=>
     obtain ⟨_,_,g⟩:=hc o (by rw [hx];rfl)
     rw [hx] at g D
     rcases g with ⟨U,V,Z,n,C⟩ | ⟨U,V,s',z',n,_⟩
     ·cases n
      rw [C] at hz
      obtain ⟨b,bs,X,T,r,u,l,O⟩:=hz
      obtain ⟨b',A,Y,T',k1,k2,k3,k4⟩:=D
      refine ⟨b,bs,X,T,r,u,l,λj p hj=> ?_⟩
      obtain ⟨v,g5,g6⟩:=O j p hj
      obtain ⟨v',k5,k6⟩:=k4 j p hj
      exact ⟨v,g5,k6.restrict E g6⟩
     ·cases n
  ·obtain ⟨r,u,l⟩:=y.own o pl b bs (hl.mu o pl f) hb
   refine ⟨r,u,λQ R=> ?_⟩
   obtain ⟨_,g⟩:=hc o Q
   exact l g.live (by rw [<-g.1];exact R)
  ·exact y.inj o o' pl pl' b bs A (hl.mu o pl f) (hl.mu o' pl' S) hb P (hc o h2).2.live (hc o' g).2.live
  ·refine ⟨by rw [B.fr.size,hsz],λt p v h2 g=> ?_⟩
   by_cases e:t∈W
   ·rw [hW t p e h2];exact .undef v
   ·rw [x t e] at g
    exact (B.fr.rel t p v h2 g).later w
 obtain ⟨k,c2,C⟩:=iC (vs:=vs) c hf L 0 ⟨i,base⟩ a vs hp (λj _=>by rw [j2]) (λq hq=>hq) hm.1 (λo f=>⟨hm.2 o f,λpl b bs K I N r u l O=>by
  cases hx:(getOb base K).live with
  | false=>rfl
  | true=>
    obtain ⟨h2,g⟩:=hc K hx
    have:=y.inj o K pl I b bs N r (hl.mu K I l) u O (dV (hm.2 o f)).1 g.live
    subst this
    exact absurd f h2⟩) G λo f=>by
     obtain ⟨r,u,pl,l⟩:=hK o f
     exact ⟨r,u,pl,l,hl.mu o pl l⟩
 exact ⟨_,k,c2,w.keeps,λo pl f=>C o pl f,w.sizes⟩
theorem yc (vs:List IV): ∀(L:List (Nat×Kd)) (i:Nat) (st:St),st.h.length<=(unpack vs L i st).h.length/\ ∀o,o < st.h.length->o∉wK L->getOb (unpack vs L i st).h o=getOb st.h o:=by
 intro L
 have app: ∀(L:List (Nat×Kd)) (i:Nat) (fr:List PV) (h news:List Ob),(∀(i:Nat) (st:St),st.h.length<=(unpack vs L i st).h.length/\ ∀o,o < st.h.length->o∉wK L->getOb (unpack vs L i st).h o=getOb st.h o)->
   h.length<=(unpack vs L i ⟨fr,h++news⟩).h.length/\ ∀o,o < h.length->o∉wK L->getOb (unpack vs L i ⟨fr,h++news⟩).h o=getOb h o:= λL i fr h news ih=>by
  obtain ⟨h1,h2⟩:=ih i ⟨fr,h++news⟩
  simp only [hG] at h1 h2
  exact ⟨by omega,λo a hk=>by rw [h2 o (by omega) hk,aE,if_pos a]⟩
 induction L with
 | nil=>intro i st;exact ⟨hO _,λ_ _ _=>rfl⟩
 | cons x L ih=>
   intro i st
   obtain ⟨t,b⟩:=x
   cases b with
   | I=>exact ih (i+1) ⟨st.fr.set t (.imm (nth vs i)),st.h⟩
   | S n=>exact ih (i+n) ⟨st.fr.set t (.agg (iR vs i n)),st.h⟩
   | B sz=>exact app L _ _ st.h _ ih
   | G n=>exact app L _ _ st.h _ ih
   | M=>exact app L _ _ st.h _ ih
   | C g ks=>exact app L _ _ st.h _ ih
   | O shp=>exact app L _ _ st.h _ ih
   | K q shp=>
     obtain ⟨h1,h2⟩:=ih (i+shp.length) ⟨st.fr.set t (.ptr q 0),(st.h++cy vs shp i).set q (.box .rw (cG q vs shp st.h.length i))⟩
     simp only [n3,hG] at h1 h2
     refine ⟨by simp only [unpack];omega,λo a hk=> ?_⟩
     simp only [wK,hV,not_or] at hk
     simp only [unpack]
     rw [h2 o (by omega) hk.2,bz,if_neg (λh=>hk.1 h.1.symm),aE,if_pos a]
theorem Yq {w0:gf} {ok0:O0} {w:gf} {ok:Nat->Prop} {mu:Mu} {st:St} {a:Act} (c:Cfg w0 ok0 w ok mu st a): ∀{L:List (Nat×Kd)} {vs:List IV},pack st L=some vs-> ∀o∈wK L,∃pl,mu o=some pl
 | [],_,_,o,d=>by cases d
 | (t,h)::L,vs,hp,o,d=>by
   simp only [pack] at hp
   split at hp
   ·rename_i x xs hx f
    have ih:=Yq c f
    cases h with
    | K q shp=>
      rcases hV.1 d with rfl | d
      ·simp only [pS] at hx
       split at hx
       ·rename_i i g
        split at hx
        ·rename_i e
         subst e
         have r:=c.fr.ev (.tmp t)
         simp only [ev,g] at r
         generalize a.eval (.tmp t)=v at r
         cases r with
         | ptr _ _ pl b base hm hl=>exact ⟨pl,hm⟩
        ·cases hx
       ·cases hx
      ·exact ih o d
    | _=>exact ih o d
   ·cases hp
end
section
variable (Γ:hZ->Option FSig) (A:Ann)
def ei:p1->Bool
 | .region id ops draw=>if draw then (match A.order id with | some (F,A',B)=>K7 Γ ops F A' B | none=>false) else (A.order id).isNone
 | .seq a b=>ei a&&ei b
 | .cond _ a b=>ei a&&ei b
 | .block _ a=>ei a
 | .loop a=>ei a
 | .scope a=>ei a
 | _=>true
end
def yd:Ex->rl
 | .normal=> .normal
 | .exit id=> .exit id
 | .ret=> .ret
 | .goto l=> .goto l
section
variable {P:km} {Γ:hZ->Option FSig} {C:IV->List Nat->List (List IV)->Option (List IV)} {A:Ann} {w0:gf} {ok0:O0}
theorem Fm {R:Type} (c:aF P Γ) (d:COK P C) (hm:P.follows .mixedOrders=true) {id:Nat} {ops:Array hT} {draw:Bool} (hok:ei Γ A (.region id ops draw)=true) {st:St} {k:St->Option R} {r:R} (hs:rY P Γ C (A.order id) ops st k=some r)
  {a:Act} {w:gf} {ok:Nat->Prop} {mu:Mu} (hc:Cfg w0 ok0 w ok mu st a) {Q:rl->Act->gf->Prop}
  (hk: ∀(b:St) (a':Act) (w':gf) (ok':Nat->Prop) (mu':Mu),k b=some r->Cfg w0 ok0 w' ok' mu' b a'->Step w ok mu st.h a w' ok' mu' b.h a' (dsts ops.toList)->Q .normal a' w'):(Code.region id ops draw).wp P Q a w:=by
 cases draw with
 | true=>
   simp only [ei,if_true] at hok
   split at hok
   ·rename_i F A' B e
    rw [e] at hs
    exact Xo c d hm hok hs hc hk
   ·cases hok
 | false=>
   simp only [ei,hU,if_false,l3] at hok
   rw [hok] at hs
   exact XP c d hs hc hk
theorem Qa {fr':List PV} {w':gf} {ok':Nat->Prop} {mu' a:Mu} {tmps:Array iH} (r':Fr w' ok' mu' fr' tmps) {c:List IV}: ∀(L:List Nat) (i:Nat) (l:List IV) (fr:List PV),leaves fr' L=some l->(∀j,j < l.length->nth c (i+j)=nth l j)->Fr w' ok' a fr tmps->Fr w' ok' a (xC c L i fr) tmps
 | [],i,l,fr,_,_,r=>r
 | t::L,i,l,fr,hl,hn,r=>by
   simp only [leaves] at hl
   split at hl
   ·rename_i x d hx b
    cases hl
    simp only [xC]
    refine Qa r' L (i+1) d _ b (λj hj=> ?_) (r.upd λv hv=> ?_)
    ·have:=hn (j+1) (by simp;omega)
     rw [show i+1+j=i+(j+1) by omega,this];rfl
    ·have h0:=hn 0 (by simp)
     rw [j3] at h0
     rw [h0]
     have:=r'.at hv
     rw [hx] at this
     cases this with | imm h=>exact .imm h
   ·cases hl
theorem ab1 {e a:Ex} (h:yd e=yd a):e=a:=by
 cases e<;>cases a<;>simp [yd] at h<;>first | rfl | (subst h;rfl)
theorem QA {x:p1} {e0:Ex} (ih: ∀(R:Type) (st:St) (K:Ex->St->Option R) (r:R),exec P Γ C A x R st K=some r-> ∀(a:Act) (w:gf) (ok:Nat->Prop) (mu:Mu),Cfg w0 ok0 w ok mu st a-> ∀(Q:rl->Act->gf->Prop),
   (∀(e:Ex) (c:St) (a':Act) (w':gf) (ok':Nat->Prop) (mu':Mu),K e c=some r->Cfg w0 ok0 w' ok' mu' c a'->Step w ok mu st.h a w' ok' mu' c.h a' (writes x)->Q (yd e) a' w')->x.wp P Q a w)
  {R:Type} {st:St} {K:Ex->St->Option R} {r:R} {a:Act} {w:gf} {ok:Nat->Prop} {mu:Mu} (hc:Cfg w0 ok0 w ok mu st a) {vs0:List IV} {h1:List Ob} (hp:pack st (A.pick st.fr (aU x)).1=some vs0) (hf:wh st.h (bq st (A.pick st.fr (aU x)).1)=some h1)
  (ac:m0 st h1 (A.pick st.fr (aU x)).1=true) (b4:acH (A.pick st.fr (aU x))=true) {kk:Ex->St->Option SR} {ke:Nat} {aT:List IV}
  (b1:iter rounds (λvs=>exec P Γ C A x SR (unpack vs (A.pick st.fr (aU x)).1 0 ⟨forget st.fr (writes x),(kill h1 (taken st (A.pick st.fr (aU x)).1)).map gj⟩) kk) vs0=some (ke,aT))
  (aB: ∀c,kk e0 c=(packed c (A.pick st.fr (aU x)).1).map .next) (b3: ∀e c,e≠e0->kk e c=(packed c ((A.pick st.fr (aU x)).2.getD ((oc x).idxOf e) [])).map (.done ((oc x).idxOf e)))
  (f:fg ke ((oc x).map λe=>K e (unpack aT ((A.pick st.fr (aU x)).2.getD ((oc x).idxOf e) []) 0 ⟨forget st.fr (writes x),kill h1 (taken st (A.pick st.fr (aU x)).1)⟩))=some r)
  {Q:rl->Act->gf->Prop} (hQ: ∀(e:Ex) (c:St) (a':Act) (w':gf) (ok':Nat->Prop) (mu':Mu),K e c=some r->Cfg w0 ok0 w' ok' mu' c a'->Step w ok mu st.h a w' ok' mu' c.h a' (writes x)->Q (yd e) a' w')
  {RD:Nat->Act->gf->Prop} (bO: ∀n a w,x.wp P (λe a' w'=>(e=yd e0/\RD n a' w')\/(e≠yd e0/\Q e a' w')) a w->RD (n+1) a w):RD rounds a w:=by
 generalize hL:(A.pick st.fr (aU x)).1=L at*
 generalize bM:(A.pick st.fr (aU x)).2=Ls at*
 have I: ∀o∈taken st L,isRw (getOb h1 o)=true:=by
  have:=ac
  simp only [m0,cb,g8] at this
  exact this.2
 have ab:=fp hf
 have J: ∀o,(getOb (kill h1 (taken st L)) o).live=true->o∉taken st L/\getOb (kill h1 (taken st L)) o=getOb h1 o:= λo b=>by
  rw [nC] at b ⊢
  by_cases e:o∈taken st L
  ·rw [if_pos e] at b;cases b
  ·rw [if_neg e];exact ⟨e,rfl⟩
 have M:Inv w0 ok0 w ok mu (kill h1 (taken st L)):=hc.inv.less λo b=>by
  obtain ⟨_,e⟩:=J o b
  rw [e] at b ⊢
  rcases ab.same o with y | ⟨hz,cs,m,y,T⟩ | ⟨s,z,m,y,T⟩
  ·rw [y] at b ⊢
   cases hx:getOb st.h o with
   | dead=>rw [hx] at b;cases b
   | box m cs=>exact .inr (.inl ⟨m,cs,rfl,m,rfl,λh=>h⟩)
   | arr m s z=>exact .inr (.inr ⟨m,s,z,rfl,m,rfl,λh=>h⟩)
  ·exact .inr (.inl ⟨m,cs,y,.fz,T,λh=>by rw [T] at h;cases h⟩)
  ·exact .inr (.inr ⟨m,s,z,y,.fz,T,λh=>by rw [T] at h;cases h⟩)
 have D:(kill h1 (taken st L)).length=st.h.length:=by rw [fD,ab.len]
 have Z:Fr w ok mu (forget st.fr (writes x)) a.tmps:=hc.fr.forget _
 have bB:Cfg w0 ok0 w ok mu ⟨forget st.fr (writes x),kill h1 (taken st L)⟩ a:=⟨M,λq hq=>hc.fresh q (by simpa [D] using hq),Z⟩
 have a4:Cfg w0 ok0 w ok mu ⟨forget st.fr (writes x),(kill h1 (taken st L)).map gj⟩ a:=⟨M.same λo b=>by rw [lR] at b ⊢;exact oY (by rw [<-mE];exact b),λq hq=>hc.fresh q (by simpa [D] using hq),Z⟩
 have hW: ∀(t:Nat) (p:PV),t∈writes x->(forget st.fr (writes x))[t]? =some p->p= .undef:= λt p=>Ey _ _ t p
 have bb: ∀v∈Ls,∀o∈wK v,o∈wK L:= λv bC o b=>by
  have h9:=g8.1 (g8.1 b4 v (by rw [bM];exact bC)) o b
  rw [hL] at h9
  simpa using h9
 have ap: ∀o∈wK L,o < (kill h1 (taken st L)).length/\getOb (kill h1 (taken st L)) o= .dead/\ ∃pl,mu o=some pl:= λo b=>by
  have h9:=ur hp o b
  have h8:=I o h9
  refine ⟨by rw [fD];exact l9 (dV h8).1,by rw [nC,if_pos h9],Yq hc hp o b⟩
 have a5: ∀o∈wK L,o < ((kill h1 (taken st L)).map gj).length/\getOb ((kill h1 (taken st L)).map gj) o= .dead/\ ∃pl,mu o=some pl:= λo b=>by
  obtain ⟨g1,g2,g3⟩:=ap o b
  exact ⟨by simpa using g1,by rw [lR,g2];rfl,g3⟩
 have cd: ∀o,(getOb (kill h1 (taken st L)) o).live=true->o∉wK L:= λo b k=>by
  rw [(ap o k).2.1] at b;cases b
 have V: ∃u l,Cfg w0 ok0 w u l (unpack vs0 L 0 ⟨forget st.fr (writes x),(kill h1 (taken st L)).map gj⟩) a/\Later w ok mu w u l:=
  MP a4 hW hc (.refl _ _ _) (λ_ _=>rfl) rfl hp hf ac (λo b=>by
   rw [lR] at b ⊢
   rw [mE] at b
   obtain ⟨h2,h3⟩:=J o b
   exact ⟨h2,by have:=oY b;rwa [h3] at this ⊢⟩) a5
 have j:Stay st.h (kill h1 (taken st L)):=⟨by rw [D];exact hO _,λo b H=>by
  have h2:=(kL hf).keep o b H
  rw [nC,if_neg λe=>by
   have:=I o e
   rw [h2,H] at this;cases this]
  exact h2⟩
 have N: ∀(n:Nat) (vs:List IV) (U:Act) (w1:gf) (S:Nat->Prop) (O:Mu),iter n (λvs=>exec P Γ C A x SR (unpack vs L 0 ⟨forget st.fr (writes x),(kill h1 (taken st L)).map gj⟩) kk) vs=some (ke,aT)->
   Cfg w0 ok0 w1 S O (unpack vs L 0 ⟨forget st.fr (writes x),(kill h1 (taken st L)).map gj⟩) U->Later w ok mu w1 S O->(∀t,t∉writes x->U.tmps[t]? =a.tmps[t]?)->U.tmps.size=a.tmps.size->U.defers=a.defers->RD n U w1:=by
  intro n
  induction n with
  | zero=>intro vs U w1 S O hi;cases hi
  | succ n cl=>
    intro vs U w1 S O hi bY b5 Y bm a7
    simp only [iter] at hi
    obtain ⟨sr,ck,i⟩:=ad.1 hi
    refine bO n U w1 ?_
    obtain ⟨W,X⟩:=yc vs L 0 ⟨forget st.fr (writes x),(kill h1 (taken st L)).map gj⟩
    refine ih SR _ _ sr ck U w1 S O bY _ λe c a' w' ok' mu' hk a6 E=> ?_
    have be:Later w ok mu w' ok' mu':=b5.trans E.later
    have d: ∀t,t∉writes x->a'.tmps[t]? =a.tmps[t]? := λt ht=>(E.same t ht).trans (Y t ht)
    have G:a'.tmps.size=a.tmps.size:=E.size.trans bm
    have F: ∀{v:List (Nat×Kd)} {h2:List Ob},wh c.h (bq c v)=some h2->m0 c h2 v=true-> ∀o,(getOb (kill h1 (taken st L)) o).live=true->o∉taken c v/\getOb h2 o=gj (getOb (kill h1 (taken st L)) o):=by
     intro v h2 b0 bi o b
     have ce:o < (kill h1 (taken st L)).length:=l9 b
     have y:getOb (unpack vs L 0 ⟨forget st.fr (writes x),(kill h1 (taken st L)).map gj⟩).h o=gj (getOb (kill h1 (taken st L)) o):=by
      rw [X o (by simpa using ce) (cd o b),lR]
     have al:o < (unpack vs L 0 ⟨forget st.fr (writes x),(kill h1 (taken st L)).map gj⟩).h.length:=by
      simp only [List.length_map] at W;omega
     have T:=E.stay.keep o al (by rw [y];exact Cd _)
     have e3:=(kL b0).keep o (hM al E.stay.len) (by rw [T,y];exact Cd _)
     have e4:getOb h2 o=gj (getOb (kill h1 (taken st L)) o):=by rw [e3,T,y]
     refine ⟨λk=> ?_,e4⟩
     simp only [m0,cb,g8] at bi
     have:=bi.2 o k
     rw [e4,Cd] at this;cases this
    have g: ∀{v:List (Nat×Kd)} {vs':List IV},packed c v=some vs'-> ∃h2,pack c v=some vs'/\wh c.h (bq c v)=some h2/\m0 c h2 v=true:=by
     intro v vs' h
     unfold packed at h
     split at h
     ·rename_i q1 q2
      split at h
      ·cases h;exact ⟨_,q1,q2,‹_›⟩
      ·cases h
     ·cases h
    have a9: ∀(n:Nat) (o:Nat),o∈wK (Ls.getD n [])->o∈wK L:= λn o b=>by
     rw [bd] at b
     cases hx:Ls[n]? with
     | none=>rw [hx] at b;cases b
     | some v=>rw [hx] at b;exact bb v (hN hx) o b
    have leave: ∀(e:Ex),(packed c (Ls.getD ((oc x).idxOf e) [])).map (SR.done ((oc x).idxOf e))=some sr->Q (yd e) a' w':=by
     intro e hk
     obtain ⟨vs',aB,rfl⟩:=g0.1 hk
     simp only [hR,Prod.mk.injEq] at i
     obtain ⟨rfl,rfl⟩:=i
     obtain ⟨h2,g1,g2,g3⟩:=g aB
     obtain ⟨u,l,c2,l2⟩:=MP bB hW a6 be d G g1 g2 g3 (λo b=>by
      obtain ⟨q1,q2⟩:=F g2 g3 o b
      exact ⟨q1,by rw [q2];exact (oY b).symm⟩) (λo b=>ap o (a9 _ o b))
     unfold fg at f
     rw [bd,hJ] at f
     by_cases k:e∈oc x
     ·have bf:=List.idxOf_lt_length_of_mem k
      rw [g7 bf,List.getElem_idxOf bf] at f
      simp only [pk,h7] at f
      obtain ⟨ca,cc⟩:=yc vs' (Ls.getD ((oc x).idxOf e) []) 0 ⟨forget st.fr (writes x),kill h1 (taken st L)⟩
      exact hQ e _ a' w' u l f c2 ⟨l2,⟨nm j.len ca,λo b H=>by
       rw [cc o (hM b j.len) (λk=>by
        have h8:=I o (ur hp o (a9 _ o k))
        rw [(kL hf).keep o b H,H] at h8;cases h8)]
       exact j.keep o b H⟩,E.defers.trans a7,d,G⟩
     ·rw [fH (by rw [List.idxOf_eq_length k];exact hO _)] at f
      cases f
    by_cases he:e=e0
    ·subst he
     rw [aB] at hk
     obtain ⟨vs',a8,rfl⟩:=g0.1 hk
     simp only at i
     obtain ⟨h2,g1,g2,g3⟩:=g a8
     obtain ⟨u,l,c2,l2⟩:=MP a4 hW a6 be d G g1 g2 g3 (λo b=>by
      rw [lR] at b ⊢
      rw [mE] at b
      obtain ⟨q1,q2⟩:=F g2 g3 o b
      exact ⟨q1,by
       rw [q2]
       have:=oY b
       exact ⟨rfl,by
        rcases this.2 with ⟨m,m',cs,y,T⟩ | ⟨m,m',s,z,y,T⟩
        ·exact .inl ⟨m,m,cs,y,y⟩
        ·exact .inr ⟨m,m,s,z,y,y⟩⟩⟩) a5
     refine .inl ⟨rfl,?_⟩
     exact cl vs' a' w' u l i c2 l2 d G (E.defers.trans a7)
    ·rw [b3 e c he] at hk
     refine .inr ⟨λh=>he (ab1 h),leave e hk⟩
 obtain ⟨u,l,c2,l2⟩:=V
 exact N rounds vs0 a w u l b1 c2 l2 (λ_ _=>rfl) rfl rfl
theorem aaa {x:p1} (ih: ∀(R:Type) (st:St) (K:Ex->St->Option R) (r:R),exec P Γ C A x R st K=some r-> ∀(a:Act) (w:gf) (ok:Nat->Prop) (mu:Mu),Cfg w0 ok0 w ok mu st a-> ∀(Q:rl->Act->gf->Prop),
   (∀(e:Ex) (b:St) (a':Act) (w':gf) (ok':Nat->Prop) (mu':Mu),K e b=some r->Cfg w0 ok0 w' ok' mu' b a'->Step w ok mu st.h a w' ok' mu' b.h a' (writes x)->Q (yd e) a' w')->x.wp P Q a w):
  ∀(n:Nat) (R:Type) (st:St) (K:Ex->St->Option R) (r:R),unr (exec P Γ C A x R) n st K=some r-> ∀(a:Act) (w:gf) (ok:Nat->Prop) (mu:Mu),Cfg w0 ok0 w ok mu st a-> ∀(Q:rl->Act->gf->Prop),
   (∀(e:Ex) (b:St) (a':Act) (w':gf) (ok':Nat->Prop) (mu':Mu),K e b=some r->Cfg w0 ok0 w' ok' mu' b a'->Step w ok mu st.h a w' ok' mu' b.h a' (writes x)->Q (yd e) a' w')->Code.rounds P x Q n a w:=by
 intro n
 induction n with
 | zero=>intro R st K r hs;cases hs
 | succ n k=>
   intro R st K r hs a w ok mu hc Q g
   rw [rounds_succ]
   simp only [unr] at hs
   refine ih R st _ r hs a w ok mu hc _ λe b a' w' ok' mu' hk c d=> ?_
   cases e with
   | normal=>exact k R b K r hk a' w' ok' mu' c Q λe p q w2 o m j i f=>g e p q w2 o m j i ((d.trans f).sub λt ht=>by rcases ki.1 ht with h | h<;>exact h)
   | exit id=>exact g (.exit id) b a' w' ok' mu' hk c d
   | ret=>exact g .ret b a' w' ok' mu' hk c d
   | goto l=>exact g (.goto l) b a' w' ok' mu' hk c d
theorem j6 (W:aF P Γ) (hC:COK P C) (hm:P.follows .mixedOrders=true): ∀(c:p1),ei Γ A c=true-> ∀(R:Type) (st:St) (K:Ex->St->Option R) (r:R),exec P Γ C A c R st K=some r-> ∀(a:Act) (w:gf) (ok:Nat->Prop) (mu:Mu),Cfg w0 ok0 w ok mu st a-> ∀(Q:rl->Act->gf->Prop),
  (∀(e:Ex) (f:St) (a':Act) (w':gf) (ok':Nat->Prop) (mu':Mu),K e f=some r->Cfg w0 ok0 w' ok' mu' f a'->Step w ok mu st.h a w' ok' mu' f.h a' (writes c)->Q (yd e) a' w')->c.wp P Q a w:=by
 intro c
 induction c with
 | skip=>intro _ R st K r hs a w ok mu hc Q i;exact wp_skip (i .normal st a w ok mu hs hc (.refl _ _ _ _ _ _))
 | label l=>intro _ R st K r hs a w ok mu hc Q i;exact wp_label (i .normal st a w ok mu hs hc (.refl _ _ _ _ _ _))
 | ret=>intro _ R st K r hs a w ok mu hc Q i;exact wp_ret (i .ret st a w ok mu hs hc (.refl _ _ _ _ _ _))
 | goto l=>intro _ R st K r hs a w ok mu hc Q i;exact wp_goto (i (.goto l) st a w ok mu hs hc (.refl _ _ _ _ _ _))
 | exit id=>intro _ R st K r hs a w ok mu hc Q i;exact wp_exit (i (.exit id) st a w ok mu hs hc (.refl _ _ _ _ _ _))
 | seq x y aB G=>
   intro hok R st K r hs a w ok mu hc Q i
   simp only [ei,cb] at hok
   simp only [exec] at hs
   refine wp_seq (aB hok.1 R st _ r hs a w ok mu hc _ λe f a' w' ok' mu' hk g d=> ?_)
   cases e with
   | normal=>exact G hok.2 R f K r hk a' w' ok' mu' g Q λe a3 a2 w2 a1 a0 am ac V=>i e a3 a2 w2 a1 a0 am ac (d.trans V)
   | exit id=>exact i (.exit id) f a' w' ok' mu' hk g (d.sub λt ht=>e5 _ ht)
   | ret=>exact i .ret f a' w' ok' mu' hk g (d.sub λt ht=>e5 _ ht)
   | goto l=>exact i (.goto l) f a' w' ok' mu' hk g (d.sub λt ht=>e5 _ ht)
 | block id x ih=>
   intro hok R st K r hs a w ok mu hc Q i
   simp only [ei] at hok
   simp only [exec] at hs
   refine wp_block (ih hok R st _ r hs a w ok mu hc _ λe f a' w' ok' mu' hk g d=> ?_)
   cases e with
   | normal=>exact i .normal f a' w' ok' mu' hk g d
   | exit j=>
     simp only at hk
     simp only [yd,Exit.inBlock]
     split at hk
     ·rename_i e;rw [if_pos e];exact i .normal f a' w' ok' mu' hk g d
     ·rename_i e;rw [if_neg e];exact i (.exit j) f a' w' ok' mu' hk g d
   | ret=>exact i .ret f a' w' ok' mu' hk g d
   | goto l=>exact i (.goto l) f a' w' ok' mu' hk g d
 | scope x ih=>
   intro hok R st K r hs a w ok mu hc Q i
   simp only [ei] at hok
   simp only [exec] at hs
   refine wp_scope_straight (ih hok R st _ r hs a w ok mu hc _ λe f a' w' ok' mu' hk g d=> ?_)
   cases e with
   | goto l=>cases hk
   | normal=>exact i .normal f a' w' ok' mu' hk g d
   | exit j=>exact i (.exit j) f a' w' ok' mu' hk g d
   | ret=>exact i .ret f a' w' ok' mu' hk g d
 | cond x y z G aT=>
   intro hok R st K r hs a w ok mu hc Q i
   simp only [ei,cb] at hok
   simp only [exec] at hs
   split at hs
   ·rename_i v hv
    have hr:=hc.fr.ev x
    rw [hv] at hr
    rcases oH hs with ⟨rfl,h1⟩ | ⟨rfl,h1⟩
    ·refine wp_cond_true (by generalize a.eval x=u at hr;cases hr with | imm hr=>cases hr;rfl) (G hok.1 R st K r h1 a w ok mu hc Q λe f a' w' ok' mu' hk g d=>i e f a' w' ok' mu' hk g (d.sub λt ht=>e5 _ ht))
    ·refine wp_cond_false (by generalize a.eval x=u at hr;cases hr with | imm hr=>cases hr;rfl) (aT hok.2 R st K r h1 a w ok mu hc Q λe f a' w' ok' mu' hk g d=>i e f a' w' ok' mu' hk g (d.sub λt ht=>b7 _ ht))
   ·cases hs
 | region id ops draw=>
   intro hok R st K r hs a w ok mu hc Q i
   simp only [exec] at hs
   split at hs
   ·exact Fm W hC hm hok hs hc λf a' w' ok' mu' hk g d=>i .normal f a' w' ok' mu' hk g d
   ·rename_i L hj
    obtain ⟨lv,h1,h2⟩:=ad.1 hs
    have F:Cfg w0 ok0 w ok mu ⟨st.fr,st.h.map gj⟩ a:=⟨hc.inv.same λo k=>by rw [lR] at k ⊢;exact oY (by rw [<-mE];exact k),by simpa using hc.fresh,hc.fr⟩
    refine Fm W hC hm hok h1 F λf a' w' ok' mu' hk g d=> ?_
    have D: ∀{o pl},mu o=some pl->o < st.h.length:= λ{o pl} k=>by
     rcases hI o st.h.length with h1 | h1
     ·exact h1
     ·rw [hc.fresh o h1] at k;cases k
    have q: ∀o,o < st.h.length->getOb f.h o=gj (getOb st.h o):= λo k=>by
     rw [d.stay.keep o (by simpa using k) (by rw [lR];exact Cd _),lR]
    have N:Later w ok mu w' ok' mu:=⟨d.later.keeps,λ_ _ h=>h,d.later.sizes⟩
    have M: ∀o,mu o≠none->mu o=mu' o:= λo k=>by
     cases hx:mu o with
     | none=>exact absurd hx k
     | some pl=>exact (d.later.mu o pl hx).symm
    have hinv:Inv w0 ok0 w' ok' mu st.h:=by
     have H:=g.inv
     refine ⟨H.below,H.okw,H.okb,λo pl k=> ?_,λo pl b bs k hb=> ?_,λo o' pl pl' b bs I k S hb ab h3 h4=> ?_⟩
     ·have hz:=H.ob o pl (d.later.mu o pl k)
      rw [q o (D k)] at hz
      have J:=hc.inv.ob o pl k
      cases hx:getOb st.h o with
      | dead=>trivial
      | arr m s z=>rw [hx] at hz;cases m<;>exact hz
      | box m cs=>
        rw [hx] at hz J
        have ap:ObOk w' ok' mu' pl (.box m cs):=by cases m<;>exact hz
        obtain ⟨b,bs,cc,T,Y,Z,X,g4⟩:=ap
        obtain ⟨b',I,a7,T',k1,k2,k3,k4⟩:=J
        refine ⟨b,bs,cc,T,Y,Z,X,λj p hj=> ?_⟩
        obtain ⟨v,g5,g6⟩:=g4 j p hj
        obtain ⟨v',k5,k6⟩:=k4 j p hj
        exact ⟨v,g5,k6.restrict M g6⟩
     ·obtain ⟨Y,Z,X⟩:=H.own o pl b bs (d.later.mu o pl k) hb
      refine ⟨Y,Z,λO ao=> ?_⟩
      rw [q o (D k)] at X
      exact X (by rw [mE];exact O) (by rw [(oY O).1];exact ao)
     ·refine H.inj o o' pl pl' b bs I (d.later.mu o pl k) (d.later.mu o' pl' S) hb ab ?_ ?_
      ·rw [q o (D k),mE];exact h3
      ·rw [q o' (D S),mE];exact h4
    refine i .normal _ a' w' ok' mu h2 ⟨hinv,hc.fresh,?_⟩ ⟨N,.refl _,d.defers,d.same,d.size⟩
    exact Qa g.fr L 0 lv _ hk (λj _=>by rw [j2]) (hc.fr.turned N d.same d.size)
 | loop x ih=>
   intro hok R st K r hs a w ok mu hc Q i
   simp only [ei] at hok
   simp only [exec] at hs
   split at hs
   ·exact wp_loop_rounds _ (aaa (ih hok) _ R st K r hs a w ok mu hc Q i)
   split at hs
   ·rename_i vs0 h1 hp hf
    split at hs
    ·cases hs
    ·rename_i E
     obtain ⟨⟨ke,bv⟩,al,U⟩:=ad.1 hs
     refine wp_loop_rounds rounds (QA (A:=A) (e0:= .normal) (ih hok) hc hp hf (by simp only [kq,cb] at E;exact E.1) (by simp only [kq,cb] at E;exact E.2) al (λf=>rfl) (λe f he=> ?_) U i (RD:=Code.rounds P x Q) λn a w h=> ?_)
     ·cases e with
      | normal=>exact absurd rfl he
      | _=>rfl
     ·rw [rounds_succ]
      refine wp_mono h λe a w h=> ?_
      rcases h with ⟨rfl,h⟩ | ⟨he,h⟩
      ·exact h
      ·cases e with
       | normal=>exact absurd rfl he
       | _=>exact h
   ·cases hs
 | _=>intro _ R st K r hs;simp [exec] at hs
def Lk (P:km) (rest:p1) (l:Nat) (Q:rl->Act->gf->Prop):Nat->rl->Act->gf->Prop
 | 0=> λe a w=>match e with | .goto _=>False | e=>Q e a w
 | n+1=> λe a w=>match e with | .goto b=>b=l/\rest.wp P (Lk P rest l Q n) a w | e=>Q e a w
theorem AK {rest:p1} {l:Nat} {Q:rl->Act->gf->Prop} {a:Act} {w:gf}: ∀(n:Nat) {e:rl},(∀b,e≠ .goto b)->Q e a w->Lk P rest l Q n e a w
 | 0,e,he,h=>by cases e<;>first | exact absurd rfl (he _) | exact h
 | n+1,e,he,h=>by cases e<;>first | exact absurd rfl (he _) | exact h
theorem O9 {body rest:p1} {l:Nat} (hf:findLabel body l=some rest) {Q:rl->Act->gf->Prop} {a:Act} {w:gf} (n:Nat) (h:body.wp P (Lk P rest l Q n) a w):(Code.scope body).wp P Q a w:=by
 intro b k cs
 have key: ∀(n:Nat) (c:p1) (a:Act) (w:gf),c.wp P (Lk P rest l Q n) a w-> ∃e a' w',Q e a' w'/\Arrives P (lone (b.at a (.code c:: .inScope body::k)) cs w) b k cs e a' w':=by
  intro n
  induction n with
  | zero=>
    intro c a w h
    obtain ⟨e,g,w1,f,d⟩:=h b (.inScope body::k) cs
    cases e with
    | goto l=>exact f.elim
    | normal=>exact ⟨.normal,g,w1,f,Steps.trans d (.one step_inScope)⟩
    | exit id=>exact ⟨.exit id,g,w1,f,λk' hk=>d k' (by simp [exitTo,hk])⟩
    | ret=>exact ⟨_,g,w1,f,d⟩
    | panic ch=>exact ⟨_,g,w1,f,d⟩
    | outgrown=>exact ⟨_,g,w1,f,d⟩
  | succ n ih=>
    intro c a w h
    obtain ⟨e,g,w1,f,d⟩:=h b (.inScope body::k) cs
    cases e with
    | goto p=>
      obtain ⟨rfl,hr⟩:=f
      obtain ⟨o,m,w2,j,i⟩:=ih rest g w1 hr
      exact ⟨o,m,w2,j,.of_steps (d _ (by simp [gotoIn,hf])) i⟩
    | normal=>exact ⟨.normal,g,w1,f,Steps.trans d (.one step_inScope)⟩
    | exit id=>exact ⟨.exit id,g,w1,f,λk' hk=>d k' (by simp [exitTo,hk])⟩
    | ret=>exact ⟨_,g,w1,f,d⟩
    | panic ch=>exact ⟨_,g,w1,f,d⟩
    | outgrown=>exact ⟨_,g,w1,f,d⟩
 obtain ⟨e,a',w',f,d⟩:=key n body a w h
 exact ⟨e,a',w',f,.of_steps (.one step_scope) d⟩
def abF:p1->Option Nat
 | .seq a b=>match a with | .label l=>some l | _=>abF b
 | _=>none
def uT (l:Nat):p1->Bool
 | .seq a b=>match a with | .label c=>decide (c=l) | a=>(findLabel a l).isNone&&uT l b
 | _=>false
def Ks (l:Nat) (rest:p1):p1->Prop
 | .seq a b=>match a with | .label c=>c=l/\rest= .seq .skip b | _=>Ks l rest b
 | _=>True
theorem Oq {l:Nat}: ∀(c:p1),uT l c=true-> ∃rest,findLabel c l=some rest/\Ks l rest c:=by
 intro c
 induction c with
 | seq a b _ e=>
   intro h
   by_cases d: ∃f,a= .label f
   ·obtain ⟨f,rfl⟩:=d
    simp only [uT,decide_eq_true_eq] at h
    subst h
    exact ⟨.seq .skip b,by simp [findLabel],rfl,rfl⟩
   ·have h':(findLabel a l).isNone=true/\uT l b=true:=by
     cases a<;>first | exact absurd ⟨_,rfl⟩ d | (simpa [uT] using h)
    obtain ⟨rest,h1,h2⟩:=e h'.2
    refine ⟨rest,?_,?_⟩
    ·simp only [findLabel]
     rw [l3.1 h'.1]
     exact h1
    ·cases a<;>first | exact absurd ⟨_,rfl⟩ d | exact h2
 | _=>intro h;simp [uT] at h
theorem TW (m:aF P Γ) (z:COK P C) (hm:P.follows .mixedOrders=true) {l:Nat} {rest:p1} {Q:rl->Act->gf->Prop}: ∀(c:p1),ei Γ A c=true->Ks l rest c-> ∀(R:Type) (st:St) (K:Ex->St->Option R) (r:R),dy P Γ C A c R st K=some r->(∀l b,K (.goto l) b=none)->
  ∀(a:Act) (w:gf) (ok:Nat->Prop) (mu:Mu),Cfg w0 ok0 w ok mu st a->(∀(e:Ex) (b:St) (a':Act) (w':gf) (ok':Nat->Prop) (mu':Mu),K e b=some r->Cfg w0 ok0 w' ok' mu' b a'->Step w ok mu st.h a w' ok' mu' b.h a' (writes c)->Q (yd e) a' w')->c.wp P (Lk P rest l Q rounds) a w:=by
 intro c
 have plain: ∀(c:p1),ei Γ A c=true-> ∀(R:Type) (st:St) (K:Ex->St->Option R) (r:R),exec P Γ C A c R st K=some r->(∀l b,K (.goto l) b=none)->
   ∀(a:Act) (w:gf) (ok:Nat->Prop) (mu:Mu),Cfg w0 ok0 w ok mu st a->(∀(e:Ex) (b:St) (a':Act) (w':gf) (ok':Nat->Prop) (mu':Mu),K e b=some r->Cfg w0 ok0 w' ok' mu' b a'->Step w ok mu st.h a w' ok' mu' b.h a' (writes c)->Q (yd e) a' w')->c.wp P (Lk P rest l Q rounds) a w:=by
  intro c hok R st K r hs i a w ok mu hc k
  refine j6 m z hm c hok R st K r hs a w ok mu hc _ λe b a' w' ok' mu' hk d f=> ?_
  have h:=k e b a' w' ok' mu' hk d f
  cases e with
  | goto o=>rw [i] at hk;cases hk
  | normal=>exact AK _ (λ_ h=>by cases h) h
  | exit j=>exact AK _ (λ_ h=>by cases h) h
  | ret=>exact AK _ (λ_ h=>by cases h) h
 induction c with
 | seq x y _ H=>
   intro hok q R st K r hs i a w ok mu hc k
   simp only [ei,cb] at hok
   by_cases hx: ∃o,x= .label o
   ·obtain ⟨o,rfl⟩:=hx
    obtain ⟨rfl,rfl⟩:=q
    refine wp_seq (wp_label ?_)
    show y.wp P _ a w
    have p: ∀(e:Ex) (b:St) (a':Act) (w':gf) (ok':Nat->Prop) (mu':Mu),K e b=some r->Cfg w0 ok0 w' ok' mu' b a'->Step w ok mu st.h a w' ok' mu' b.h a' (writes y)->Q (yd e) a' w':= λe b a' w' ok' mu' hk d f=>k e b a' w' ok' mu' hk d (f.sub λt ht=>b7 _ ht)
    simp only [dy] at hs
    split at hs
    ·unfold MR at hs
     simp only at hs
     split at hs
     ·rename_i vs0 h1 hp hf
      split at hs
      ·cases hs
      ·rename_i g
       obtain ⟨⟨O,N⟩,E,u⟩:=ad.1 hs
       refine QA (A:=A) (e0:= .goto o) (λR st K r=>j6 m z hm y hok.2 R st K r) hc hp hf (by simp only [kq,cb] at g;exact g.1) (by simp only [kq,cb] at g;exact g.2) E (λb=>by simp) (λe b he=>by simp [he]) u
        (Q:= λe a w=>match e with | .goto _=>False | e=>Q e a w) (λe b a' w' ok' mu' hk d f=> ?_) (RD:= λn a w=>y.wp P (Lk P (.seq .skip y) o Q n) a w) λn a w h=> ?_
       ·have h:=p e b a' w' ok' mu' hk d f
        cases e with
        | goto o=>rw [i] at hk;cases hk
        | normal=>exact h
        | exit j=>exact h
        | ret=>exact h
       ·refine wp_mono h λe a w h=> ?_
        rcases h with ⟨rfl,h⟩ | ⟨he,h⟩
        ·exact ⟨rfl,wp_seq (wp_skip h)⟩
        ·cases e with
         | goto S=>exact h.elim
         | _=>exact h
     ·cases hs
    ·exact plain y hok.2 R st K r hs i a w ok mu hc p
   ·have G:exec P Γ C A x R st (λe b=>match e with | .normal=>dy P Γ C A y R b K | e=>K e b)=some r:=by
     cases x<;>first | exact absurd ⟨_,rfl⟩ hx | exact hs
    have s:Ks l rest y:=by
     cases x<;>first | exact absurd ⟨_,rfl⟩ hx | exact q
    refine wp_seq (j6 m z hm x hok.1 R st _ r G a w ok mu hc _ λe b a' w' ok' mu' hk d f=> ?_)
    cases e with
    | normal=>exact H hok.2 s R b K r hk i a' w' ok' mu' d λe L M w2 J I F D v=>k e L M w2 J I F D (f.trans v)
    | goto o=>simp only at hk;rw [i] at hk;cases hk
    | exit j=>exact AK _ (λ_ h=>by cases h) (k (.exit j) b a' w' ok' mu' hk d (f.sub λt ht=>e5 _ ht))
    | ret=>exact AK _ (λ_ h=>by cases h) (k .ret b a' w' ok' mu' hk d (f.sub λt ht=>e5 _ ht))
 | _=>intro hok _ R st K r hs i a w ok mu hc k;exact plain _ hok R st K r hs i a w ok mu hc k
def YH:p1->Bool
 | .seq _ b=>YH b
 | .scope b=>if (oc b).any aaw then (match abF b with | some l=>uT l b | none=>false) else true
 | _=>true
def Ev (Γ:hZ->Option FSig) (A:Ann) (c:p1):Bool:=ei Γ A c&&YH c
theorem Cb (i:aF P Γ) (p:COK P C) (hm:P.follows .mixedOrders=true): ∀(c:p1) (hok:Ev Γ A c=true) (R:Type) (st:St) (K:Ex->St->Option R) (r:R) (hs:gz P Γ C A c R st K=some r) (n: ∀l d,K (.goto l) d=none) (a:Act) (w:gf) (ok:Nat->Prop) (mu:Mu) (hc:Cfg w0 ok0 w ok mu st a) (Q:rl->Act->gf->Prop)
  (g: ∀(e:Ex) (d:St) (a':Act) (w':gf) (ok':Nat->Prop) (mu':Mu),K e d=some r->Cfg w0 ok0 w' ok' mu' d a'->Step w ok mu st.h a w' ok' mu' d.h a' (writes c)->Q (yd e) a' w'),c.wp P Q a w:=by
 intro c
 induction c with
 | seq x y _ v=>
   intro hok R st K r hs n a w ok mu hc Q g
   simp only [Ev,ei,YH,cb] at hok
   simp only [gz] at hs
   refine wp_seq (j6 i p hm x hok.1.1 R st _ r hs a w ok mu hc _ λe d a' w' ok' mu' hk k m=> ?_)
   cases e with
   | normal=>exact v (by simp only [Ev,cb];exact ⟨hok.1.2,hok.2⟩) R d K r hk n a' w' ok' mu' k Q λe E F w2 D z u q o=>g e E F w2 D z u q (m.trans o)
   | goto H=>simp only at hk;rw [n] at hk;cases hk
   | exit j=>exact g (.exit j) d a' w' ok' mu' hk k (m.sub λt ht=>e5 _ ht)
   | ret=>exact g .ret d a' w' ok' mu' hk k (m.sub λt ht=>e5 _ ht)
 | scope b _=>
   intro hok R st K r hs n a w ok mu hc Q g
   simp only [Ev,cb] at hok
   obtain ⟨hok,f⟩:=hok
   simp only [gz] at hs
   split at hs
   ·rename_i G
    simp only [YH,G,if_true] at f
    split at f
    ·rename_i l hl
     obtain ⟨rest,hf,s⟩:=Oq b f
     exact O9 hf rounds (TW i p hm b hok s R st K r hs n a w ok mu hc g)
    ·cases f
   ·exact j6 i p hm _ hok R st K r hs a w ok mu hc Q g
 | _=>
   intro hok R st K r hs n a w ok mu hc Q g
   simp only [Ev,cb] at hok
   exact j6 i p hm _ hok.1 R st K r hs a w ok mu hc Q g
end
end Go.AM
namespace Go.AM
open Go.RowKit
section
variable {P:km} {Γ:hZ->Option FSig} {C:IV->List Nat->List (List IV)->Option (List IV)} {A:Ann} {ops:Array hT} {R:Type}
theorem yE {k:St->Option R} {r:R}: ∀(l:List hT) (st:St),mH P Γ C ops l st k=some r-> ∃a,k a=some r
 | [],st,h=>⟨st,h⟩
 | o::l,st,h=>by
   simp only [mH] at h
   obtain ⟨b,_,hc⟩:=dp h
   rcases hc with ⟨_,p,h',_,h2⟩ | ⟨_,h2⟩
   ·exact yE l _ h2
   ·exact yE l _ h2
theorem yo {ok:hT->List PV->Bool} {k:St->Option R} {r:R}: ∀(l:List hT) (st:St),sN P Γ C ok ops l st k=some r-> ∃a,k a=some r
 | [],st,h=>⟨st,h⟩
 | o::l,st,h=>by
   simp only [sN] at h
   split at h
   ·obtain ⟨b,_,hc⟩:=dp h
    rcases hc with ⟨_,p,h',_,h2⟩ | ⟨_,h2⟩
    ·exact yo l _ h2
    ·exact yo l _ h2
   ·cases h
theorem vT {ok:hT->List PV->Bool} {k:St->Option R} {r:R}: ∀(l:List hT) (st:St),qJ P Γ C ok ops l st k=some r-> ∃a,k a=some r
 | [],st,h=>⟨st,h⟩
 | o::l,st,h=>by
   simp only [qJ] at h
   split at h
   ·split at h
    ·exact vT l _ h
    ·cases h
   ·split at h
    ·obtain ⟨b,_,hc⟩:=dp h
     rcases hc with ⟨_,p,h',_,h2⟩ | ⟨_,h2⟩
     ·exact vT l _ h2
     ·exact vT l _ h2
    ·cases h
theorem VG {ord:Option (List Nat×List Nat×List Nat)} {k:St->Option R} {r:R} {st:St} (h:rY P Γ C ord ops st k=some r): ∃a,k a=some r:=by
 unfold rY at h
 split at h
 ·exact yE _ _ h
 ·obtain ⟨a,h2⟩:=yo _ _ h
  obtain ⟨d,b⟩:=vT _ _ h2
  obtain ⟨e,c⟩:=yo _ _ b
  exact ⟨_,c⟩
theorem tw: ∀(c:p1) (R:Type) (st:St) (K:Ex->St->Option R) (r:R),exec P Γ C A c R st K=some r-> ∃e a,K e a=some r:=by
 intro c
 induction c with
 | skip=>intro R st K r h;exact ⟨_,_,h⟩
 | label l=>intro R st K r h;exact ⟨_,_,h⟩
 | ret=>intro R st K r h;exact ⟨_,_,h⟩
 | exit id=>intro R st K r h;exact ⟨_,_,h⟩
 | goto l=>intro R st K r h;exact ⟨_,_,h⟩
 | seq x y f b=>
   intro R st K r h
   simp only [exec] at h
   obtain ⟨e,a,h2⟩:=f R st _ r h
   cases e with
   | normal=>exact b R a K r h2
   | exit id=>exact ⟨_,_,h2⟩
   | ret=>exact ⟨_,_,h2⟩
   | goto l=>exact ⟨_,_,h2⟩
 | block id x ih=>
   intro R st K r h
   simp only [exec] at h
   obtain ⟨e,a,h2⟩:=ih R st _ r h
   cases e with
   | normal=>exact ⟨_,_,h2⟩
   | exit j=>simp only at h2;split at h2<;>exact ⟨_,_,h2⟩
   | ret=>exact ⟨_,_,h2⟩
   | goto l=>exact ⟨_,_,h2⟩
 | scope x ih=>
   intro R st K r h
   simp only [exec] at h
   obtain ⟨e,a,h2⟩:=ih R st _ r h
   cases e with
   | goto l=>cases h2
   | _=>exact ⟨_,_,h2⟩
 | cond x y z b g=>
   intro R st K r h
   simp only [exec] at h
   split at h
   ·rcases oH h with ⟨_,h1⟩ | ⟨_,h1⟩
    ·exact b R st K r h1
    ·exact g R st K r h1
   ·cases h
 | region id ops draw=>
   intro R st K r h
   simp only [exec] at h
   split at h
   ·obtain ⟨a,h2⟩:=VG h;exact ⟨_,_,h2⟩
   ·obtain ⟨k,_,h2⟩:=ad.1 h;exact ⟨_,_,h2⟩
 | loop x ih=>
   intro R st K r h
   simp only [exec] at h
   split at h
   ·generalize A.unroll (aU x)=n at h
    induction n generalizing st with
    | zero=>cases h
    | succ n d=>
      simp only [unr] at h
      obtain ⟨e,a,h2⟩:=ih _ _ _ _ h
      cases e with
      | normal=>exact d _ h2
      | _=>exact ⟨_,_,h2⟩
   split at h
   ·split at h
    ·cases h
    ·obtain ⟨p,_,h2⟩:=ad.1 h
     unfold fg at h2
     rw [bd,hJ] at h2
     cases i:(oc x)[p.1]? with
     | none=>rw [i] at h2;cases h2
     | some e=>rw [i] at h2;exact ⟨_,_,h2⟩
   ·cases h
 | _=>intro R st K r h;simp [exec] at h
theorem K4 {α R:Type} {l:List α} {g:α->Option R} {k:Nat} {r:R} (h:fg k (l.map g)=some r): ∃e,g e=some r:=by
 unfold fg at h
 rw [bd,hJ] at h
 cases a:l[k]? with
 | none=>rw [a] at h;cases h
 | some e=>rw [a] at h;exact ⟨_,h⟩
theorem K1: ∀(c:p1) (R:Type) (st:St) (K:Ex->St->Option R) (r:R),dy P Γ C A c R st K=some r-> ∃e a,K e a=some r:=by
 intro c
 induction c with
 | seq x y _ b=>
   intro R st K r h
   by_cases hx: ∃d,x= .label d
   ·obtain ⟨d,rfl⟩:=hx
    simp only [dy] at h
    split at h
    ·unfold MR at h
     simp only at h
     split at h
     ·split at h
      ·cases h
      ·obtain ⟨p,_,h2⟩:=ad.1 h
       obtain ⟨e,f⟩:=K4 h2
       exact ⟨_,_,f⟩
     ·cases h
    ·exact tw _ _ _ _ _ h
   ·have h':exec P Γ C A x R st (λe a=>match e with | .normal=>dy P Γ C A y R a K | e=>K e a)=some r:=by
     cases x<;>first | exact absurd ⟨_,rfl⟩ hx | exact h
    obtain ⟨e,a,h2⟩:=tw _ _ _ _ _ h'
    cases e with
    | normal=>exact b R a K r h2
    | _=>exact ⟨_,_,h2⟩
 | _=>intro R st K r h;exact tw _ _ _ _ _ h
theorem R0: ∀(c:p1) (R:Type) (st:St) (K:Ex->St->Option R) (r:R),gz P Γ C A c R st K=some r-> ∃e a,K e a=some r:=by
 intro c
 induction c with
 | seq x y _ d=>
   intro R st K r h
   simp only [gz] at h
   obtain ⟨e,a,h2⟩:=tw _ _ _ _ _ h
   cases e with
   | normal=>exact d R a K r h2
   | _=>exact ⟨_,_,h2⟩
 | scope b _=>
   intro R st K r h
   simp only [gz] at h
   split at h
   ·exact K1 _ _ _ _ _ h
   ·exact tw _ _ _ _ _ h
 | _=>intro R st K r h;exact tw _ _ _ _ _ h
theorem W5 {f:Func} {as:List (List IV)} {r:List IV} (c:A.scalar=true) (h:run P Γ C A f as=some r): ∀x∈r,x.scalar=true:=by
 unfold run at h
 split at h
 ·obtain ⟨e,d,h2⟩:=R0 _ _ _ _ _ h
  have key: ∀q,fin A q=some r-> ∀x∈r,x.scalar=true:=by
   intro q a
   unfold fin at a
   split at a
   ·rw [if_pos c] at a
    unfold aw at a
    split at a
    ·rename_i b;cases a;exact λx hx=>g8.1 b x hx
    ·cases a
   ·cases a
  cases e with
  | normal=>exact key _ h2
  | exit j=>cases h2
  | goto l=>cases h2
  | ret=>exact key _ h2
 ·cases h
end
section
variable {P:km} {Γ:hZ->Option FSig} {C:IV->List Nat->List (List IV)->Option (List IV)} {A:Ann} {w0:gf} {ok0:O0} {w:gf} {ok:Nat->Prop} {mu:Mu} {st:St} {a:Act}
theorem U3 {t:ru} {cs:List IV} {p:PV} {v:iH} (h:SN P t cs=some p) (r:ArgRel w ok cs v):RP w ok (λ_=>none) p v:=by
 unfold SN at h
 split at h
 ·split at h
  ·rename_i hc
   cases h
   rcases r with ⟨x,e,_⟩ | ⟨h1,vs,rfl,h2,b⟩
   ·rw [e] at hc;simp at hc;omega
   ·refine .agg _ _ (by simp [h2]) λi q u a c=> ?_
    rw [hJ] at a
    cases hi:cs[i]? with
    | none=>rw [hi] at a;cases a
    | some x=>rw [hi] at a;cases a;exact .imm (b i x u hi c)
  ·cases h
 ·split at h
  ·cases h
   rcases r with ⟨x,e,hr⟩ | ⟨h1,_⟩
   ·cases e;exact .imm hr
   ·simp at h1
  ·cases h
theorem p8: ∀(d:List ru) (n:Nat) (as:List (List IV)) (ps:List PV) (args:List iH),gS P d n as=some ps->as.length=args.length->(∀(i:Nat) (c:List IV) (v:iH),as[i]? =some c->args[i]? =some v->ArgRel w ok c v)->
  ps.length=args.length/\ ∀(i:Nat) (p:PV) (v:iH),ps[i]? =some p->args[i]? =some v->RP w ok (λ_=>none) p v
 | [],0,[],ps,args,h,hl,_=>by
   simp only [gS,hR] at h
   subst h
   exact ⟨by simpa using hl,λi p v h1 _=>by simp at h1⟩
 | [],0,_::_,ps,args,h,_,_=>by simp [gS] at h
 | [],n+1,[],ps,args,h,_,_=>by simp [gS] at h
 | [],n+1,[]::l,ps,args,h,_,_=>by simp [gS] at h
 | [],n+1,(_::_::_)::l,ps,args,h,_,_=>by simp [gS] at h
 | [],n+1,[x]::l,ps,args,h,hl,hr=>by
   simp only [gS,g0] at h
   obtain ⟨g,h1,rfl⟩:=h
   cases args with
   | nil=>simp at hl
   | cons v args=>
     obtain ⟨h2,f⟩:=p8 [] n l g args h1 (by simpa using hl) λi c v hc hv=>hr (i+1) c v (by simpa using hc) (by simpa using hv)
     refine ⟨by simp [h2],λi p u a b=> ?_⟩
     cases i with
     | zero=>
       simp at a b;subst a;subst b
       rcases hr 0 [x] v rfl rfl with ⟨y,e,hx⟩ | ⟨j,_⟩
       ·cases e;exact .imm hx
       ·simp at j
     | succ i=>exact f i p u (by simpa using a) (by simpa using b)
 | t::d,n,[],ps,args,h,_,_=>by simp [gS] at h
 | t::d,n,cs::l,ps,args,h,hl,hr=>by
   simp only [gS] at h
   obtain ⟨p,h0,h⟩:=ad.1 h
   obtain ⟨g,h1,rfl⟩:=g0.1 h
   cases args with
   | nil=>simp at hl
   | cons v args=>
     obtain ⟨h2,f⟩:=p8 d n l g args h1 (by simpa using hl) λi c v hc hv=>hr (i+1) c v (by simpa using hc) (by simpa using hv)
     refine ⟨by simp [h2],λi q u a b=> ?_⟩
     cases i with
     | zero=>simp at a b;subst a;subst b;exact U3 h0 (hr 0 cs v rfl rfl)
     | succ i=>exact f i q u (by simpa using a) (by simpa using b)
def VH (w0:gf) (ok0:O0) (w:gf):Nat->Prop:= λb=>ok0.ok b\/(Own0 w0 ok0 b/\b < w.heap.size)
theorem abL (i:Inv w0 ok0 w ok mu st.h) (l:List Nat): ∀b,jG ok mu l b->VH w0 ok0 w b:= λb hb=>by
 rcases hb with hb | ⟨q,_,pl,base,h1,h2⟩
 ·rcases i.okb b hb with h1 | h1
  ·exact .inl h1
  ·exact .inr ⟨h1,i.okw b hb⟩
 ·obtain ⟨a,c,_⟩:=i.own q pl b base h1 h2
  exact .inr ⟨a,c⟩
theorem Y8 {w0 w:gf} {a:Nat->Prop}: ∀b,VH w0 ⟨a,λ_=>False⟩ w b->CT w0 a w b:= λb hb=>by
 rcases hb with h | ⟨h | h,h2⟩
 ·exact .inl h
 ·exact .inr ⟨h,h2⟩
 ·exact h.elim
theorem qE.more {w:gf} {ok ok':Nat->Prop} (hm: ∀b,ok b->ok' b) {n:Nat} {r:List IV} {i:Nat} {v:iH} (h:qE w ok n r i v):qE w ok' n r i v:=by
 rcases h with ⟨h1,h2⟩ | ⟨h1,vs,h2,a,c⟩
 ·exact .inl ⟨h1,h2.more hm⟩
 ·exact .inr ⟨h1,vs,h2,a,λj u hu=>(c j u hu).more hm⟩
theorem ld.more {w:gf} {ok ok':Nat->Prop} (hm: ∀b,ok b->ok' b) {r:List IV}: ∀{ns:List Nat} {i:Nat} {vs:List iH},ld w ok r ns i vs->ld w ok' r ns i vs
 | [],_,[],_=>trivial
 | _::_,_,_::_,h=>⟨h.1.more hm,ld.more hm h.2⟩
 | [],_,_::_,h=>h.elim
 | _::_,_,[],h=>h.elim
theorem gm.more {w:gf} {ok ok':Nat->Prop} (hm: ∀b,ok b->ok' b) {ns:List Nat} {r:List IV} {v:iH} (h:gm w ok ns r v):gm w ok' ns r v:=by
 match ns,h with
 | [n],h=>exact qE.more hm h
 | [],h=>exact h.imp λvs h=>⟨h.1,h.2.more hm⟩
 | n::m::ns,h=>exact h.imp λvs h=>⟨h.1,h.2.more hm⟩
theorem HX (c:Cfg w0 ok0 w ok mu st a) {n:Nat} {p:PV} {v:iH} (r:RP w ok mu p v) {cs:List IV} (h:vP n p st.h=some cs):cs.length=n/\ ∀(l:List IV) (i:Nat),(∀j,j < n->nth l (i+j)=nth cs j)->qE w (VH w0 ok0 w) n l i v:=by
 unfold vP at h
 split at h
 ·rename_i hok
  obtain ⟨as,h1,h2⟩:=ad.1 h
  split at h2
  ·rename_i hn
   cases h2
   refine ⟨hn,λl i hl=> ?_⟩
   have hrel:=(Bg c.inv.q r hok h1).more (abL c.inv _)
   rcases hrel with ⟨x,e,hx⟩ | ⟨f,vs,e,g,d⟩
   ·subst e
    have b:n=1:=by rw [<-hn];rfl
    refine .inl ⟨b,?_⟩
    have:=hl 0 (by omega)
    rw [j3] at this
    rw [this];exact hx
   ·refine .inr ⟨by omega,vs,e,by omega,λj u hu=> ?_⟩
    have hj:j < n:=by have:=(e8.1 hu).1;omega
    rw [hl j hj]
    refine d j (nth cs j) u ?_ hu
    exact Kw (by omega)
  ·cases h2
 ·cases h
theorem kx {x y:List IV} {j:Nat} (h:j < x.length):nth (x++y) j=nth x j:=by
 unfold nth;rw [bd,ha h,bd]
theorem mU {x y:List IV} {j:Nat}:nth (x++y) (x.length+j)=nth y j:=by
 unfold nth;rw [bd,hD (by omega),bd];congr 2;omega
theorem Bx (c:Cfg w0 ok0 w ok mu st a) {x:Nat} {t:ru} {p:PV} (h:BZ P t (st.fr.getD x .undef) st.h=some p): ∃v,(do loadVar t (<-asAddr (a.tmps.getD x undef)):Sem iH).run P w= .ok v w/\RP w ok mu p v:=by
 have r:RP w ok mu (st.fr.getD x .undef) (a.tmps.getD x undef):=c.fr.ev (.tmp x)
 generalize a.tmps.getD x undef=y at r
 unfold BZ at h
 split at h
 ·rename_i q j hx
  rw [hx] at r
  split at h
  ·rename_i md cs s
   cases r with
   | ptr _ _ pl b base hm hl=>
     have f:=c.inv.ob q pl hm
     rw [s] at f
     obtain ⟨b',base',k,T,e,hw,hs,hr⟩:=f
     rw [hl] at e;cases e
     have has:(asAddr (.pointer (some ⟨b,base+j,none⟩))).run P w= .ok ⟨b,base+j,none⟩ w:=rfl
     split at h
     ·rename_i n
      split at h
      ·rename_i hj
       cases h
       have g:((k.toList.drop (base+j)).take (P.cellsOf t)).length=P.cellsOf t:=by simp;omega
       refine ⟨.agg ((k.toList.drop (base+j)).take (P.cellsOf t)).toArray,?_,?_⟩
       ·rw [kv,has]
        simp only [hX]
        refine yY n g λi v hi=> ?_
        have d:i < P.cellsOf t:=by have:=(fv.1 hi).1;rwa [g] at this
        rw [kh d,l1] at hi
        rw [iY hw]
        simpa using hi
       ·refine .agg _ _ (by simp;omega) λi p v h1 h2=> ?_
        have d:i < P.cellsOf t:=by
         have:=(fv.1 h1).1;simp at this;omega
        rw [kh d,l1] at h1
        rw [List.getElem?_toArray,kh d,l1] at h2
        obtain ⟨u,l,m⟩:=hr (j+i) p h1
        have:k[base+(j+i)]? =some v:=by rw [<-Nat.add_assoc];simpa using h2
        rw [l] at this;cases this
        exact m
      ·cases h
     ·split at h
      ·rename_i o
       obtain ⟨u,l,m⟩:=hr j p h
       refine ⟨u,?_,m⟩
       rw [kv,has]
       simp only [hX]
       exact yR o (by rw [iY hw];exact l)
      ·cases h
  ·cases h
 ·cases h
def ik (tmps:Array iH):ResultVar->Sem iH
 | .tmp t=>pure (tmps.getD t undef)
 | .cell a t=>do loadVar t (<-asAddr (tmps.getD a undef))
theorem Tn (c:Cfg w0 ok0 w ok mu st a): ∀(rs:List ResultVar) (ns:List Nat) (cs:List IV),zk P st rs ns=some cs-> ∃vs,(rs.mapM (ik a.tmps)).run P w= .ok vs w/\vs.length=rs.length/\rs.length=ns.length/\
  ∀(l:List IV) (i:Nat),(∀j,j < cs.length->nth l (i+j)=nth cs j)->ld w (VH w0 ok0 w) l ns i vs
 | [],[],cs,h=>by
   simp only [zk,hR] at h
   subst h
   exact ⟨[],by simp,rfl,rfl,λl i _=>trivial⟩
 | [],_::_,cs,h=>by simp [zk] at h
 | .tmp _::_,[],cs,h=>by simp [zk] at h
 | .cell _ _::_,[],cs,h=>by simp [zk] at h
 | .tmp t::rs,n::ns,cs,h=>by
   simp only [zk] at h
   split at h
   ·rename_i x xs hx b
    cases h
    have r:RP w ok mu (st.fr.getD t .undef) (a.tmps.getD t undef):=c.fr.ev (.tmp t)
    obtain ⟨hn,h1⟩:=HX c r hx
    obtain ⟨vs,h2,d,e,f⟩:=Tn c rs ns xs b
    refine ⟨a.tmps.getD t undef::vs,?_,by simp [d],by simp [e],λl i hl=>⟨h1 l i λj hj=> ?_,f l (i+n) λj hj=> ?_⟩⟩
    ·simp only [qs,ik,kv,h2,n5,hX]
    ·rw [hl j (by simp;omega),kx (by omega)]
    ·have:=hl (n+j) (by simp;omega)
     rw [show i+n+j=i+(n+j) by omega,this,<-hn,mU]
   ·cases h
 | .cell x t::rs,n::ns,cs,h=>by
   simp only [zk] at h
   split at h
   ·rename_i y ys hx b
    cases h
    obtain ⟨p,hp,k⟩:=ad.1 hx
    obtain ⟨v,hv,r⟩:=Bx (P:=P) c hp
    obtain ⟨hn,h1⟩:=HX c r k
    obtain ⟨vs,h2,d,e,f⟩:=Tn c rs ns ys b
    refine ⟨v::vs,?_,by simp [d],by simp [e],λl i hl=>⟨h1 l i λj hj=> ?_,f l (i+n) λj hj=> ?_⟩⟩
    ·have g:(ik a.tmps (.cell x t)).run P w= .ok v w:=hv
     simp only [qs,kv,g,h2,n5,hX]
    ·rw [hl j (by simp;omega),kx (by omega)]
    ·have:=hl (n+j) (by simp;omega)
     rw [show i+n+j=i+(n+j) by omega,this,<-hn,mU]
   ·cases h
theorem TS (c:Cfg w0 ok0 w ok mu st a) {f:Func} {r:List IV} (h:zk P st f.results.toList (f.resultTypes.toList.map P.cellsOf)=some r):
  ∃v,(results f a.tmps).run P w= .ok v w/\gm w (VH w0 ok0 w) (f.resultTypes.toList.map P.cellsOf) r v:=by
 obtain ⟨vs,h1,h2,d,e⟩:=Tn c _ _ _ h
 have hr:results f a.tmps=(do let vs <-f.results.mapM (ik a.tmps);pure (if h:vs.size=1 then vs[0] else .tuple vs)):=by
  unfold results
  congr 2
 have hm:(f.results.mapM (ik a.tmps)).run P w= .ok vs.toArray w:=by
  rw [Array.mapM_eq_mapM_toList,map_eq_pure_bind]
  simp only [kv,h1,hX,n5]
 have b:=e r 0 λj _=>by rw [j2]
 refine ⟨if h:vs.toArray.size=1 then vs.toArray[0] else .tuple vs.toArray,by rw [hr,kv,hm];rfl,?_⟩
 generalize f.resultTypes.toList.map P.cellsOf=ns at*
 match ns,vs,h2,d,b with
 | [n],[v],_,_,b=>exact b.1
 | [],[],_,_,_=>exact ⟨_,rfl,trivial⟩
 | n::m::ns,v::u::vs,_,_,b=>
   unfold gm
   split
   ·rename_i heq;cases heq
   ·refine ⟨_,by rw [dif_neg (by simp)],by simpa using b⟩
theorem Zi (y:aF P Γ) (D:COK P C) (hm:P.follows .mixedOrders=true) {g:hZ} {f:Func} (E:P.funcs[g]? =some f) (hb:(match f.body with | some c=>Ev Γ A c | none=>false)=true) {W:gf} {k:Nat->Prop} (hok: ∀b,k b->b < W.heap.size)
  {as:List (List IV)} {args:List iH} (a:cL W k as args) {r:List IV} (hr:run P Γ C A f as=some r):
  Calls P g args.toArray W λe w'=> ∃v,e= .returned v/\Below W.heap.size W w'/\gm w' (CT W k w') (f.resultTypes.toList.map P.cellsOf) r v:=by
 unfold run at hr
 split at hr
 ·rename_i c ps hc w
  rw [hc] at hb
  obtain ⟨hl,hrel⟩:=p8 _ _ _ _ _ w a.1 a.2
  refine calls_of_wp E hc (Cb (w0:=W) (ok0:=⟨k,λ_=>False⟩) y D hm c hb _ _ _ r hr (λ_ _=>rfl) _ W k (λ_=>none) ⟨⟨.refl _ _ _,hok,λb hb=> .inl hb,λo pl s=>(by cases s),λo pl b base s=>(by cases s),λo o' pl pl' b base base' s=>(by cases s)⟩,λ_ _=>rfl,?_⟩ _ λe z a' w' ok' mu' hk m x=> ?_)
  ·refine ⟨by simp [hl],λt p v h1 h2=> ?_⟩
   simp only [Array.getElem?_append,List.size_toArray] at h2
   by_cases n:t < args.length
   ·rw [ha (by omega)] at h1
    rw [if_pos n] at h2
    exact hrel t p v h1 (by simpa using h2)
   ·rw [hD (by omega),List.getElem?_replicate] at h1
    rw [if_neg n,Array.getElem?_replicate] at h2
    split at h1
    ·split at h2
     ·cases h1;cases h2;exact .skip
     ·cases h2
    ·cases h1
  ·have i: ∀q,fin A q=some r->q=some r:=by
    intro q d
    unfold fin at d
    split at d
    ·split at d
     ·unfold aw at d
      split at d
      ·exact d
      ·cases d
     ·exact d
    ·cases d
   have done:zk P z f.results.toList (f.resultTypes.toList.map P.cellsOf)=some r->a'.defers=[]/\ ∃v,(results f a'.tmps).run P w'= .ok v w'/\ ∃u,Ending.returned v= .returned u/\Below W.heap.size W w'/\gm w' (CT W k w') (f.resultTypes.toList.map P.cellsOf) r u:=by
    intro h
    obtain ⟨v,h1,h2⟩:=TS m h
    exact ⟨x.defers,v,h1,v,rfl,(m.inv.below.below λ_ h=>h),h2.more Y8⟩
   cases e with
   | normal=>exact done (i _ hk)
   | exit j=>cases hk
   | goto l=>cases hk
   | ret=>exact done (i _ hk)
 ·cases hr
end
end Go.AM
