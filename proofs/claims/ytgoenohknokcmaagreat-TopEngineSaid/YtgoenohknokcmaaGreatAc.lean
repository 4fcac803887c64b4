/- The abstract machine's regions against the model's, first part: guards; operations one behind the other. -/
import Derived.Test.YtgoenohknokcmaaGreatAb
import Derived.Orders
import Derived.LoopN
import Derived.Scope
set_option linter.unusedVariables false
set_option linter.unusedSimpArgs false
namespace Go.AM
open Go.RowKit
structure Step (w:World) (ok:Nat->Prop) (mu:Mu) (h:List Ob) (a:Act) (w':World) (ok':Nat->Prop) (mu':Mu) (h':List Ob) (a':Act) (ds:List Nat):Prop where
 later:Later w ok mu w' ok' mu'
 stay:Stay h h'
 defers:a'.defers=a.defers
 same: ∀t,t∉ds->a'.tmps[t]? =a.tmps[t]?
 size:a'.tmps.size=a.tmps.size
theorem Step.refl (w:World) (ok:Nat->Prop) (mu:Mu) (h:List Ob) (a:Act) (ds:List Nat):Step w ok mu h a w ok mu h a ds:=⟨.refl _ _ _,.refl _,rfl,fun _ _=>rfl,rfl⟩
theorem Step.trans {w w1 w2:World} {ok ok1 ok2:Nat->Prop} {mu mu1 mu2:Mu} {h h1 h2:List Ob} {a a1 a2:Act} {ds es:List Nat} (x:Step w ok mu h a w1 ok1 mu1 h1 a1 ds) (y:Step w1 ok1 mu1 h1 a1 w2 ok2 mu2 h2 a2 es):Step w ok mu h a w2 ok2 mu2 h2 a2 (ds++es):=
 ⟨x.later.trans y.later,x.stay.trans y.stay,y.defers.trans x.defers,fun t ht=>by
   simp only [List.mem_append,not_or] at ht
   rw [y.same t ht.2,x.same t ht.1],y.size.trans x.size⟩
theorem Step.sub {w w1:World} {ok ok1:Nat->Prop} {mu mu1:Mu} {h h1:List Ob} {a a1:Act} {ds es:List Nat} (x:Step w ok mu h a w1 ok1 mu1 h1 a1 ds) (hs: ∀t,t∈ds->t∈es):Step w ok mu h a w1 ok1 mu1 h1 a1 es:=
 ⟨x.later,x.stay,x.defers,fun t ht=>x.same t fun h=>ht (hs t h),x.size⟩
structure Cfg (w0:World) (ok0:O0) (w:World) (ok:Nat->Prop) (mu:Mu) (st:St) (a:Act):Prop where
 inv:Inv w0 ok0 w ok mu st.h
 fresh: ∀q,st.h.length<=q->mu q=none
 fr:Fr w ok mu st.fr a.tmps
def guardVal (ops:Array Oper) (o:Oper) (fr:List PV):Option Bool:=
 match o.guard with
 | none=>some true
 | some (j,want)=>
   match (ops[j]?).bind (·.dst) with
   | none=>none
   | some s=>
     match fr.getD s .undef with
     | .imm (.bool b)=>some (b==want)
     | .skip=>some false
     | _=>none
theorem VZ {fr:List PV} {s:Nat} {p:PV} (h:fr.getD s .undef=p) (hp:p≠ .undef):fr.set s p=fr:=by
 apply List.ext_getElem?
 intro i
 rw [List.getElem?_set]
 by_cases e:s=i
 ·subst e
  by_cases hl:s < fr.length
  ·simp only [if_true,hl]
   rw [List.getD_eq_getElem?_getD,List.getElem?_eq_getElem hl] at h
   simp only [Option.getD_some] at h
   rw [List.getElem?_eq_getElem hl,h]
  ·exfalso
   rw [List.getD_eq_getElem?_getD,List.getElem?_eq_none (Nat.le_of_not_lt hl)] at h
   exact hp h.symm
 ·simp [e]
section
variable {P:Program} {Γ:FuncId->Option FSig} {C:IV->List Nat->List (List IV)->Option (List IV)} {w0:World} {ok0:O0} {ops:Array Oper} {o:Oper} {a:Act} {w:World} {ok:Nat->Prop} {mu:Mu} {st:St} {R:Type}
theorem cp {k:St->Option R} {r:R} (hs:qO P Γ C ops o st k=some r): ∃b,guardVal ops o st.fr=some b/\
  ((b=true/\ ∃p h',b5 P Γ C o st=some (p,h')/\k ⟨setDst st.fr o.dst p,h'⟩=some r)\/(b=false/\k ⟨setDst st.fr o.dst .skip,st.h⟩=some r)):=by
 have go: ∀{st:St},eC P Γ C o st (fun p h=>k ⟨setDst st.fr o.dst p,h⟩)=some r-> ∃p h',b5 P Γ C o st=some (p,h')/\k ⟨setDst st.fr o.dst p,h'⟩=some r:=by
  intro st hs
  rw [SH] at hs
  obtain ⟨⟨p,h'⟩,h1,h2⟩:=Option.bind_eq_some_iff.1 hs
  exact ⟨p,h',h1,h2⟩
 unfold qO at hs
 unfold guardVal
 simp only at hs
 split at hs
 ·rename_i h0;rw [h0];exact ⟨true,rfl,.inl ⟨rfl,go hs⟩⟩
 ·rename_i j want hg
  rw [hg]
  simp only
  split at hs
  ·cases hs
  ·rename_i s hj
   simp only [hj]
   split at hs
   ·rename_i x hx
    have key: ∀b:Bool,x= .bool b->(⟨st.fr.set s (.imm (.bool b)),st.h⟩:St)=st:=by
     rintro b rfl
     rw [VZ hx (by simp)]
    rcases kQ hs with ⟨rfl,h1⟩ | ⟨rfl,h1⟩
    ·rw [key true rfl] at h1
     simp only [hx]
     cases want
     ·simp only [Bool.false_eq_true,if_false] at h1
      exact ⟨false,rfl,.inr ⟨rfl,h1⟩⟩
     ·simp only [if_true] at h1
      exact ⟨true,rfl,.inl ⟨rfl,go h1⟩⟩
    ·rw [key false rfl] at h1
     simp only [hx]
     cases want
     ·simp only [Bool.false_eq_true,if_false] at h1
      exact ⟨true,rfl,.inl ⟨rfl,go h1⟩⟩
     ·simp only [if_true] at h1
      exact ⟨false,rfl,.inr ⟨rfl,h1⟩⟩
   ·rename_i hx
    simp only [hx]
    exact ⟨false,rfl,.inr ⟨rfl,hs⟩⟩
   ·cases hs
theorem Cj {fr:List PV} {b:Bool} (hg:guardVal ops o fr=some b) (hf: ∀s v,o.guard.bind (fun g=>(ops[g.1]?).bind (·.dst))=some s->a.tmps[s]? =some v->RP w ok mu (fr.getD s .undef) v) (hsz:fr.length=a.tmps.size):Region.wanted o (yielded ops a.tmps)=b:=by
 unfold guardVal at hg
 unfold Region.wanted
 split at hg
 ·rename_i h0;rw [h0];cases hg;rfl
 ·rename_i j want h0
  rw [h0]
  simp only
  split at hg
  ·cases hg
  ·rename_i s hj
   have hlt:fr.getD s .undef≠ .undef->s < a.tmps.size:=by
    intro hne
    rw [<-hsz]
    rcases Nat.lt_or_ge s fr.length with h1 | h1
    ·exact h1
    ·rw [List.getD_eq_getElem?_getD,List.getElem?_eq_none h1] at hne;exact absurd rfl hne
   have hb:o.guard.bind (fun g=>(ops[g.1]?).bind (·.dst))=some s:=by rw [h0];exact hj
   split at hg
   ·rename_i c hx
    cases hg
    have hl:=hlt (by rw [hx];simp)
    have hv:a.tmps[s]? =some a.tmps[s]:=Array.getElem?_eq_getElem hl
    have r:=hf s _ hb hv
    rw [hx] at r
    have hval:a.tmps[s]= .bool c:=by
     generalize a.tmps[s]=v at r
     cases r with | imm r=>cases r;rfl
    rw [hval] at hv
    have hy:yielded ops a.tmps j=some c:=by
     unfold yielded
     rw [hj]
     simp only [Option.bind_some]
     rw [hv]
    rw [hy]
    cases c<;>cases want<;>rfl
   ·rename_i hx
    cases hg
    have hl:=hlt (by rw [hx];simp)
    have hv:a.tmps[s]? =some a.tmps[s]:=Array.getElem?_eq_getElem hl
    have r:=hf s _ hb hv
    rw [hx] at r
    have hval:a.tmps[s]=undef:=by
     generalize a.tmps[s]=v at r
     cases r;rfl
    rw [hval] at hv
    have hy:yielded ops a.tmps j=none:=by
     unfold yielded
     rw [hj]
     simp only [Option.bind_some]
     rw [hv]
     rfl
    rw [hy]
    rfl
   ·cases hg
theorem Fr.at {fr:List PV} {tmps:Array Value} (r:Fr w ok mu fr tmps) {s:Nat} {v:Value} (h:tmps[s]? =some v):RP w ok mu (fr.getD s .undef) v:=by
 have hl:s < tmps.size:=(Array.getElem?_eq_some_iff.1 h).1
 have hl':s < fr.length:=by rw [r.size];exact hl
 have h1:fr[s]? =some fr[s]:=List.getElem?_eq_getElem hl'
 rw [List.getD_eq_getElem?_getD,h1]
 exact r.rel s _ v h1 h
theorem BR {d:Option Nat} {v:Value} {t:Nat} (ht:d≠some t):(a.put d v).tmps[t]? =a.tmps[t]? :=by
 cases d with
 | none=>rfl
 | some d=>
   have:d≠t:=fun e=>ht (by rw [e])
   simp [Act.put,Array.getElem?_setIfInBounds_ne this]
theorem L1 {d:Option Nat} {v:Value}:(a.put d v).tmps.size=a.tmps.size:=by cases d<;>simp [Act.put]
theorem nt {d:Option Nat} {v:Value}:(a.put d v).defers=a.defers:=by cases d<;>rfl
theorem Fr.put {fr:List PV} (r:Fr w ok mu fr a.tmps) (d:Option Nat) {p:PV} {v:Value} (h:RP w ok mu p v):Fr w ok mu (setDst fr d p) (a.put d v).tmps:=by
 cases d with
 | none=>exact r
 | some d=>exact r.set d h
theorem CG (hΓ:ak P Γ) (hC:COK P C) {Q:Exit->Act->World->Prop} {k:St->Option R} {r:R}: ∀(l:List Oper) (st:St) (a:Act) (w:World) (ok:Nat->Prop) (mu:Mu),jh P Γ C ops l st k=some r->Cfg w0 ok0 w ok mu st a->
  (∀st' a' w' ok' mu',k st'=some r->Cfg w0 ok0 w' ok' mu' st' a'->Step w ok mu st.h a w' ok' mu' st'.h a' (dsts l)->Q .normal a' w')->wpList P ops Q l a w
 | [],st,a,w,ok,mu,hs,hc,hk=>hk st a w ok mu hs hc (.refl _ _ _ _ _ _)
 | o::l,st,a,w,ok,mu,hs,hc,hk=>by
   simp only [jh] at hs
   obtain ⟨b,hg,hcase⟩:=cp hs
   have hw:=Cj (w:=w) (ok:=ok) (mu:=mu) (a:=a) hg (fun s v _ hv=>hc.fr.at hv) hc.fr.size
   have hds: ∀t,t∈dsts l->t∈dsts (o::l):=fun t ht=>by
    simp only [dsts,List.filterMap_cons] at*
    split
    ·exact ht
    ·exact List.mem_cons_of_mem _ ht
   have hd: ∀t,o.dst=some t->t∈dsts (o::l):=fun t ht=>by
    simp only [dsts,List.filterMap_cons,ht]
    exact List.mem_cons_self
   unfold wpList
   rw [hw]
   rcases hcase with ⟨rfl,p,h',hst,hrest⟩ | ⟨rfl,hrest⟩
   ·simp only [if_true]
    left
    refine SQ hΓ hC hst hc.fr hc.inv hc.fresh _ _ fun v w' hr=> ?_
    obtain ⟨ok',mu',hl,hi,hp,hfr⟩:=hr
    refine CG hΓ hC l _ _ _ ok' mu' hrest ⟨hi,hfr,(hc.fr.later hl).put o.dst hp⟩ fun st' a' w2 ok2 mu2 h1 h2 h3=>hk st' a' w2 ok2 mu2 h1 h2 ?_
    have h0:Step w ok mu st.h a w' ok' mu' h' (a.put o.dst v) (dsts (o::l)):=⟨hl,nf hst,nt,fun t ht=>BR fun e=>ht (hd t e),L1⟩
    exact (h0.trans (h3.sub hds)).sub fun t ht=>by simpa using ht
   ·simp only [Bool.false_eq_true,if_false]
    refine CG hΓ hC l _ _ _ ok mu hrest ⟨hc.inv,hc.fresh,hc.fr.put o.dst .skip⟩ fun st' a' w2 ok2 mu2 h1 h2 h3=>hk st' a' w2 ok2 mu2 h1 h2 ?_
    have h0:Step w ok mu st.h a w ok mu st.h (a.put o.dst undef) (dsts (o::l)):=⟨.refl _ _ _,.refl _,nt,fun t ht=>BR fun e=>ht (hd t e),L1⟩
    exact (h0.trans (h3.sub hds)).sub fun t ht=>by simpa using ht
end
end Go.AM
namespace Go.AM
open Go.RowKit
def ObFz (x y:Ob):Prop:=y=x\/(∃m cs,x= .box m cs/\y= .box .fz cs)\/ ∃m s z,x= .arr m s z/\y= .arr .fz s z
theorem ObFz.trans {x y z:Ob} (a:ObFz x y) (b:ObFz y z):ObFz x z:=by
 rcases a with rfl | ⟨m,cs,rfl,rfl⟩ | ⟨m,s,u,rfl,rfl⟩
 ·exact b
 ·rcases b with rfl | ⟨m',cs',e,rfl⟩ | ⟨m',s',u',e,rfl⟩
  ·exact .inr (.inl ⟨m,cs,rfl,rfl⟩)
  ·cases e;exact .inr (.inl ⟨m,cs,rfl,rfl⟩)
  ·cases e
 ·rcases b with rfl | ⟨m',cs',e,rfl⟩ | ⟨m',s',u',e,rfl⟩
  ·exact .inr (.inr ⟨m,s,u,rfl,rfl⟩)
  ·cases e
  ·cases e;exact .inr (.inr ⟨m,s,u,rfl,rfl⟩)
theorem ObFz.okL {w:World} {ok:Nat->Prop} {mu:Mu} {pl:Pl} {x y:Ob} (a:ObFz x y) (h:ObOk w ok mu pl y):ObOk w ok mu pl x:=by
 rcases a with rfl | ⟨m,cs,rfl,rfl⟩ | ⟨m,s,u,rfl,rfl⟩<;>exact h
theorem ObFz.fX {w:World} {ok:Nat->Prop} {mu:Mu} {pl:Pl} {x y:Ob} (a:ObFz x y) (h:ObOk w ok mu pl x):ObOk w ok mu pl y:=by
 rcases a with rfl | ⟨m,cs,rfl,rfl⟩ | ⟨m,s,u,rfl,rfl⟩<;>exact h
theorem ObFz.fz {x y:Ob} (a:ObFz x y) (h:x.fz=true):y.fz=true:=by
 rcases a with rfl | ⟨m,cs,rfl,rfl⟩ | ⟨m,s,u,rfl,rfl⟩
 ·exact h
 ·rfl
 ·rfl
theorem ObFz.live {x y:Ob} (a:ObFz x y):y.live=x.live:=by
 rcases a with rfl | ⟨m,cs,rfl,rfl⟩ | ⟨m,s,u,rfl,rfl⟩<;>rfl
structure SubH (h H:List Ob):Prop where
 len:h.length<=H.length
 same: ∀o,o < h.length->ObFz (getOb h o) (getOb H o)
theorem SubH.refl (h:List Ob):SubH h h:=⟨Nat.le_refl _,fun _ _=> .inl rfl⟩
theorem SubH.trans {h h1 h2:List Ob} (a:SubH h h1) (b:SubH h1 h2):SubH h h2:=
 ⟨Nat.le_trans a.len b.len,fun o ho=>(a.same o ho).trans (b.same o (Nat.lt_of_lt_of_le ho a.len))⟩
theorem Frozen.subH {h h1:List Ob} {l:List Nat} (f:Frozen h h1 l):SubH h h1:=
 ⟨by rw [f.len];exact Nat.le_refl _,fun o _=>by
   rcases f.same o with e | ⟨_,cs,m,e1,e2⟩ | ⟨s,x,m,e1,e2⟩
   ·exact .inl e
   ·exact .inr (.inl ⟨m,cs,e1,e2⟩)
   ·exact .inr (.inr ⟨m,s,x,e1,e2⟩)⟩
theorem SubH.append (h news:List Ob):SubH h (h++news):=⟨by simp,fun o ho=>by rw [an,if_pos ho];exact .inl rfl⟩
theorem SubH.qK {h h1:List Ob} {l:List Nat} (hf:qK h l=some h1) (news:List Ob):SubH h (h1++news):=(dx hf).subH.trans (.append _ _)
section
variable {P:Program} {Γ:FuncId->Option FSig} {C:IV->List Nat->List (List IV)->Option (List IV)} {h h':List Ob} {p:PV}
theorem NL {l:List Nat} {h1:List Ob} (hf:AM.qK h l=some h1):SubH h h1:=(dx hf).subH
theorem Vo {t:TypeId} {a:PV} (hs:loadT P t a h (fun p h=>some (p,h))=some (p,h')):SubH h h':=by
 unfold loadT at hs
 repeat' split at hs
 all_goals first
  | (cases hs;done)
  | (cases hs;exact .refl _)
  | (obtain ⟨r,_,he⟩:=Option.bind_eq_some_iff.1 hs;cases he;exact .refl _)
theorem Vu {b:Builtin} {t0 t1:TypeId} {ps:List PV} (hq:(!wW b)=true) (hs:lr P b t0 t1 ps h (fun p h=>some (p,h))=some (p,h')):SubH h h':=by
 unfold lr at hs
 split at hs<;>first | (cases hq;done) | skip
 all_goals (repeat' split at hs)
 all_goals first
  | (cases hs;done)
  | (cases hs;exact .refl _)
  | (obtain ⟨r,_,he⟩:=Option.bind_eq_some_iff.1 hs;cases he;exact .refl _)
theorem vM {s:FSig} {ps:List PV} (hq:s.mode= .pure\/s.mode= .own\/s.mode= .fresh\/ ∃n,s.mode= .look n) (hs:aX s h ps (fun p h=>some (p,h))=some (p,h')):SubH h h':=by
 unfold aX at hs
 rcases hq with hq | hq | hq | ⟨n,hq⟩<;>rw [hq] at hs<;>simp only at hs
 ·split at hs
  ·rename_i as h1 _ hl
   obtain ⟨r,_,he⟩:=Option.bind_eq_some_iff.1 hs
   cases he
   unfold Xn at hl
   split at hl
   ·cases hl;exact .refl _
   ·exact NL hl
  ·cases hs
 ·split at hs
  ·obtain ⟨r,_,he⟩:=Option.bind_eq_some_iff.1 hs
   cases he
   exact .append _ _
  ·cases hs
 ·split at hs
  ·obtain ⟨r,_,he⟩:=Option.bind_eq_some_iff.1 hs
   cases he
   exact .append _ _
  ·cases hs
 ·split at hs
  ·split at hs
   ·obtain ⟨r,_,he⟩:=Option.bind_eq_some_iff.1 hs
    cases he
    exact .refl _
   ·cases hs
  ·cases hs
theorem HE {o:Oper} {c:Call} (hop:o.op= .call c) (hq:bN Γ o=true):(∀b,c.callee= .builtin b->(!wW b)=true)/\ ∀g s,c.callee= .value (.func g)->Γ g=some s->s.mode= .pure\/s.mode= .own\/s.mode= .fresh\/ ∃n,s.mode= .look n:=by
 unfold bN at hq
 rw [hop] at hq
 simp only at hq
 refine ⟨fun b hb=> ?_,fun g s hg hs=> ?_⟩
 ·rw [hb] at hq;exact hq
 ·rw [hg] at hq
  simp only [hs] at hq
  cases hm:s.mode<;>rw [hm] at hq<;>simp_all
theorem Vz {o:Oper} {c:Call} {f:Operand} (hop:o.op= .call c) (hc:c.callee= .value f) (hnf: ∀g,f= .func g->False) (hq:bN Γ o=true):False:=by
 unfold bN at hq
 rw [hop] at hq
 simp only [hc] at hq
 cases f with
 | func g=>exact hnf g rfl
 | _=>cases hq
theorem US {o:Oper} {st:St} (hq:bN Γ o=true) (hs:b5 P Γ C o st=some (p,h')):SubH st.h h':=by
 unfold b5 eC at hs
 repeat' split at hs
 all_goals first
  | (cases hs;done)
  | (obtain ⟨_,_,he⟩:=Option.bind_eq_some_iff.1 hs;cases he;done)
  | (cases hs;exact .refl _)
  | (cases hs;exact .append _ _)
  | exact Vo hs
  | (rename_i hop;simp [bN,hop] at hq;done)
  | (rename_i b hcal _;exact Vu ((HE ‹_› hq).1 _ ‹_›) hs)
  | (rename_i s hg;exact vM ((HE ‹_› hq).2 _ _ ‹_› ‹_›) hs)
  | exact vM (.inl rfl) hs
  | (rename_i hfz;exact (NL hfz).trans (vM (.inl rfl) hs))
  | (obtain ⟨r,_,he⟩:=Option.bind_eq_some_iff.1 hs;cases he;exact .refl _)
  | (obtain ⟨r,_,he⟩:=Option.bind_eq_some_iff.1 hs;cases he;exact .append _ _)
  | (rcases kQ hs with ⟨_,h1⟩ | ⟨_,h1⟩<;>cases h1<;>exact .refl _)
  | (obtain ⟨r,_,he⟩:=Option.bind_eq_some_iff.1 hs;obtain ⟨_,_,he2⟩:=Option.bind_eq_some_iff.1 he;cases he2;exact .refl _)
  | (obtain ⟨r,_,he⟩:=Option.bind_eq_some_iff.1 hs;split at he<;>first | (cases he;done) | skip;split at he<;>first | (cases he;exact .refl _) | skip;split at he<;>first | (cases he;exact .refl _) | (cases he;done))
  | (rename_i hfz;cases hs;exact NL hfz)
  | (rename_i hfz _;cases hs;exact SubH.qK hfz _)
  | exact (Vz ‹o.op= .call _› ‹_=Callee.value _› ‹∀g,_=Operand.func g->False› hq).elim
  | (exfalso;have:bN Γ o=false:=by { unfold bN;simp only [*] }
     rw [this] at hq;cases hq)
end
section
variable {w0:World} {ok0:O0} {w w':World} {ok ok':Nat->Prop} {mu mu':Mu} {H:List Ob} {n:Nat} {news:List Ob} {fz:List Nat} {p:PV} {v:Value}
theorem Grow.later' (g:Grow w ok mu n news fz p v w' ok' mu') (hok: ∀b,ok b->b < w.heap.size) (hn:news≠[]->mu n=none):Later w ok mu w' ok' mu':=by
 rcases g.obs with ⟨_,e⟩ | ⟨ob,pl,e,_⟩
 ·have hmu:mu'=mu:=funext fun o=>by
   by_cases h:o=n
   ·rw [h,e]
   ·exact g.same o h
  subst hmu
  refine ⟨⟨fun b hb=>g.below.block b (hok b hb),g.more⟩,fun _ _ h=>h,fun b c T z hb=>⟨c,z,?_,rfl⟩⟩
  rw [g.below.block b (Array.getElem?_eq_some_iff.1 hb).1];exact hb
 ·exact g.later hok (hn (by rw [e];simp))
theorem Inv.growAt (i:Inv w0 ok0 w ok mu H) (hn:news≠[]->mu n=none) (g:Grow w ok mu n news fz p v w' ok' mu') (hfz: ∀q∈fz,(getOb H q).fz=true) (hob: ∀ob,news=[ob]->ObFz ob (getOb H n)):Inv w0 ok0 w' ok' mu' H:=by
 have hl:=g.later' i.okw hn
 have hold: ∀o pl,mu' o=some pl->(mu o=some pl)\/(o=n/\ ∃ob,news=[ob]/\ob.live=true/\ObOk w' ok' mu' pl ob/\ ∀b base,pl.loc=some (b,base)->w.heap.size<=b/\b < w'.heap.size/\ ¬ok' b):=by
  intro o pl ho
  by_cases e:o=n
  ·subst e
   rcases g.obs with ⟨_,e1⟩ | ⟨ob,pl',e1,e2,h1,h2,h3⟩
   ·exact .inl (by rw [<-e1];exact ho)
   ·rw [ho] at e2;cases e2
    exact .inr ⟨rfl,ob,e1,h1,h2,h3⟩
  ·exact .inl (by rw [<-g.same o e];exact ho)
 have hw0:w0.heap.size<=w.heap.size:=i.below.size
 refine ⟨i.below.trans (g.below.mono hw0),fun b hb=> ?_,fun b hb=> ?_,fun o pl ho=> ?_,fun o pl b base ho hb=> ?_,fun o o' pl pl' b base base' ho ho' hb hb' hlv hlv'=> ?_⟩
 ·rcases g.new b hb with h1 | h1 | ⟨q,_,pl,base,h2,h3⟩
  ·exact Nat.lt_of_lt_of_le (i.okw b h1) g.below.size
  ·exact h1.2
  ·exact Nat.lt_of_lt_of_le (i.own q pl b base h2 h3).2.1 g.below.size
 ·rcases g.new b hb with h1 | h1 | ⟨q,_,pl,base,h2,h3⟩
  ·exact i.okb b h1
  ·exact .inr (.inl (Nat.le_trans hw0 h1.1))
  ·exact .inr (i.own q pl b base h2 h3).1
 ·rcases hold o pl ho with h1 | ⟨rfl,ob,e1,_,h2,_⟩
  ·exact (i.ob o pl h1).later hl fun b base hb=>g.below.block b (i.own o pl b base h1 hb).2.1
  ·exact (hob ob e1).fX h2
 ·rcases hold o pl ho with h1 | ⟨rfl,ob,e1,_,h2,h3⟩
  ·obtain ⟨h4,h5,h6⟩:=i.own o pl b base h1 hb
   refine ⟨h4,Nat.lt_of_lt_of_le h5 g.below.size,fun hlv hnf hok=> ?_⟩
   rcases g.new b hok with h7 | h7 | ⟨q,hq,pl',base',h8,h9⟩
   ·exact h6 hlv hnf h7
   ·omega
   ·have hfq:=hfz q hq
    have hlq:(getOb H q).live=true:=by
     cases hx:getOb H q with
     | dead=>rw [hx] at hfq;cases hfq
     | box _ _=>rfl
     | arr _ _ _=>rfl
    have:=i.inj o q pl pl' b base base' h1 h8 hb h9 hlv hlq
    subst this
    rw [hfq] at hnf;cases hnf
  ·obtain ⟨h4,h5,h6⟩:=h3 b base hb
   exact ⟨.inl (Nat.le_trans hw0 h4),h5,fun _ _=>h6⟩
 ·rcases hold o pl ho with h1 | ⟨e,ob,e1,_,h2,h3⟩<;>rcases hold o' pl' ho' with h1' | ⟨e',ob',e1',_,h2',h3'⟩
  ·exact i.inj o o' pl pl' b base base' h1 h1' hb hb' hlv hlv'
  ·have:=(i.own o pl b base h1 hb).2.1
   have:=(h3' b base' hb').1
   omega
  ·have:=(i.own o' pl' b base' h1' hb').2.1
   have:=(h3 b base hb).1
   omega
  ·rw [e,e']
end
end Go.AM
namespace Go.AM
open Go.RowKit
section
variable {P:Program} {Γ:FuncId->Option FSig} {C:IV->List Nat->List (List IV)->Option (List IV)} {h h':List Ob} {p:PV} {fr fr':List PV}
theorem D5 {x:Option Operand} (hx: ∀y∈x.toArray,ev fr y=ev fr' y):mi fr x=mi fr' x:=by
 cases x with
 | none=>rfl
 | some y=>simp only [mi];rw [hx y (by simp)]
theorem Hc {l:Array Operand} (hl: ∀x∈l,ev fr x=ev fr' x):l.toList.map (ev fr)=l.toList.map (ev fr'):=
 List.map_congr_left fun x hx=>hl x (by simpa using hx)
theorem Rj {l:Array (Nat×Operand)} (hl: ∀x∈(l.toList.map (·.2)).toArray,ev fr x=ev fr' x):(l.toList.map fun p=>(p.1,ev fr p.2))=l.toList.map fun p=>(p.1,ev fr' p.2):=
 List.map_congr_left fun x hx=>by rw [hl x.2 (by simp only [List.mem_toArray,List.mem_map];exact ⟨x,hx,rfl⟩)]
theorem Nc {k:FuncId->Bool} {l:Array (Nat×Operand)} (hl: ∀x∈(l.toList.map (·.2)).toArray,ev fr x=ev fr' x):(l.toList.map fun p=>(p.1,VB k fr p.2))=l.toList.map fun p=>(p.1,VB k fr' p.2):=
 List.map_congr_left fun x hx=>by
  have:=hl x.2 (by simp only [List.mem_toArray,List.mem_map];exact ⟨x,hx,rfl⟩)
  congr 1
  unfold VB
  split
  ·rfl
  ·exact this
theorem DU {o:Oper} (ho: ∀x∈o.op.operands,ev fr x=ev fr' x):b5 P Γ C o ⟨fr,h⟩=b5 P Γ C o ⟨fr',h⟩:=by
 obtain ⟨dst,op,type,pos,after,guard⟩:=o
 unfold b5 eC
 cases op<;>simp only [Op.operands] at ho<;>simp only
 case build t ps=>rw [Nc ho]
 case buildSlice t n ps=>rw [Rj ho]
 case makeMap t r=>cases r<;>rfl
 case mapUpdate t m x v=>rw [ho m (by simp),ho x (by simp),ho v (by simp)]
 case lookup t m x c=>rw [ho m (by simp),ho x (by simp)]
 case makeInterface t x=>rw [ho x (by simp)]
 case makeFunc fn first caps=>
  have:caps.toList.map (ev fr)=caps.toList.map (ev fr'):=Hc fun x hx=>ho x (by simp [hx])
  rw [this]
 case slice t x lo hi mx=>
  have h1:ev fr x=ev fr' x:=ho x (by simp)
  have h2:mi fr lo=mi fr' lo:=D5 fun y hy=>ho y (by simp [hy])
  have h3:mi fr hi=mi fr' hi:=D5 fun y hy=>ho y (by simp [hy])
  cases mx with
  | none=>simp only;rw [h1,h2,h3]
  | some m=>
    have h4:ev fr m=ev fr' m:=ho m (by simp)
    cases lo with
    | some y=>cases hi<;>rfl
    | none=>
      cases hi with
      | none=>rfl
      | some y=>
        have h5:ev fr y=ev fr' y:=ho y (by simp)
        simp only [h1,h4,h5]
 case call c=>
  have hargs:c.args.toList.map (ev fr)=c.args.toList.map (ev fr'):=Hc fun x hx=>ho x (by simp [Call.operands,hx])
  simp only [hargs]
  cases hc:c.callee with
  | value f=>
    have hf:ev fr f=ev fr' f:=ho f (by simp [Call.operands,hc])
    cases f<;>simp only<;>first | rfl | (rw [hf])
  | invoke r m=>
    have hf:ev fr r=ev fr' r:=ho r (by simp [Call.operands,hc])
    simp only [hf]
  | builtin b=>rfl
 all_goals first
  | rfl
  | (rename_i a b c d e;rw [ho _ (by simp:c∈ #[c,d])];rw [ho _ (by simp:d∈ #[c,d])])
  | (simp only [ho _ (by simp)];done)
  | (simp_all;done)
theorem wA {o:Oper} (hb:floatB o=true) (hk:okF o fr=true) (hs:b5 P Γ C o ⟨fr,h⟩=some (p,h')) (H:List Ob):h'=h/\b5 P Γ C o ⟨fr,H⟩=some (p,H):=by
 obtain ⟨dst,op,type,pos,after,guard⟩:=o
 cases op<;>simp only [floatB,reduceCtorEq] at hb<;>simp only [b5,eC] at hs ⊢ <;>simp only [okF] at hk
 case move x=>cases hs;exact ⟨rfl,rfl⟩
 case assign x=>cases hs;exact ⟨rfl,rfl⟩
 case pick c x y=>
  split at hs
  ·rcases kQ hs with ⟨rfl,h1⟩ | ⟨rfl,h1⟩<;>cases h1<;>exact ⟨rfl,rfl⟩
  ·cases hs
 case binOp op t x y t'=>
  split at hs
  ·split at hs
   ·rename_i hb
    obtain ⟨z,hz,he⟩:=Option.bind_eq_some_iff.1 hs
    cases he
    exact ⟨rfl,by rw [if_pos hb,hz];rfl⟩
   ·rename_i hb
    split at hs
    ·rename_i hb2
     obtain ⟨z,hz,he⟩:=Option.bind_eq_some_iff.1 hs
     cases he
     exact ⟨rfl,by rw [if_neg hb,if_pos hb2,hz];rfl⟩
    ·rename_i hb2
     obtain ⟨z,hz,he⟩:=Option.bind_eq_some_iff.1 hs
     cases he
     exact ⟨rfl,by rw [if_neg hb,if_neg hb2,hz];rfl⟩
  ·split at hs
   ·rename_i hb
    obtain ⟨z,hz,he⟩:=Option.bind_eq_some_iff.1 hs
    cases he
    exact ⟨rfl,by rw [if_pos hb,hz];rfl⟩
   ·cases hs
  ·split at hs
   ·rename_i hb
    split at hs
    ·rename_i h1 h2
     obtain ⟨z,hz,he⟩:=Option.bind_eq_some_iff.1 hs
     cases he
     exact ⟨rfl,by rw [if_pos hb];simp only [hz];rfl⟩
    ·cases hs
   ·cases hs
  ·cases hs
 case unOp op t x=>
  split at hs
  ·obtain ⟨z,hz,he⟩:=Option.bind_eq_some_iff.1 hs
   cases he
   exact ⟨rfl,by rw [hz];rfl⟩
  ·cases hs
 case slice t x lo hi mx=>
  cases mx with
  | some m=>
    cases lo with
    | some y=>cases hi<;>cases hs
    | none=>
      cases hi with
      | none=>cases hs
      | some y=>
        simp only at hs
        split at hs
        ·rename_i hx _ _;rw [hx] at hk;cases hk
        ·cases hs
  | none=>
  simp only at hs ⊢
  split at hs
  ·split at hs
   ·rename_i hb
    obtain ⟨z,hz,he⟩:=Option.bind_eq_some_iff.1 hs
    cases he
    exact ⟨rfl,by rw [if_pos hb,hz];rfl⟩
   ·rename_i hb
    split at hs
    ·rename_i hb2
     obtain ⟨z,hz,he⟩:=Option.bind_eq_some_iff.1 hs
     cases he
     exact ⟨rfl,by rw [if_neg hb,if_pos hb2,hz];rfl⟩
    ·cases hs
  ·rename_i hx _ _;rw [hx] at hk;cases hk
  ·rename_i hx _ _;rw [hx] at hk;cases hk
  ·cases hs
 case indexAddr t x i=>
  split at hs
  ·split at hs
   ·rename_i hb
    obtain ⟨z,hz,he⟩:=Option.bind_eq_some_iff.1 hs
    cases he
    exact ⟨rfl,by rw [if_pos hb,hz];rfl⟩
   ·cases hs
  ·rename_i hx _;rw [hx] at hk;cases hk
  ·rename_i hx _;rw [hx] at hk;cases hk
  ·split at hs
   ·rename_i hu
    split at hs
    ·rename_i hb
     obtain ⟨z,hz,he⟩:=Option.bind_eq_some_iff.1 hs
     cases he
     exact ⟨rfl,by rw [if_pos hb,hz];rfl⟩
    ·cases hs
   ·cases hs
  ·cases hs
 case field t x f=>
  split at hs
  ·split at hs
   ·rename_i hb
    cases hs
    exact ⟨rfl,by rw [if_pos hb]⟩
   ·rename_i hb
    split at hs
    ·rename_i hb2
     split at hs
     ·rename_i hc
      cases hs
      exact ⟨rfl,by rw [if_neg hb,if_pos hb2]⟩
     ·cases hs
    ·cases hs
  ·cases hs
 case nilCheck x=>
  split at hs
  ·obtain ⟨z,hz,he⟩:=Option.bind_eq_some_iff.1 hs
   cases he
   exact ⟨rfl,by rw [hz];rfl⟩
  all_goals first | (cases hs;exact ⟨rfl,rfl⟩) | cases hs
 case fieldAddr s x f=>
  split at hs
  ·split at hs
   ·cases hs
   ·rename_i hz
    rw [if_neg hz]
    split at hs
    all_goals first
     | (cases hs;exact ⟨rfl,rfl⟩)
     | (obtain ⟨z,hz,he⟩:=Option.bind_eq_some_iff.1 hs;cases he;exact ⟨rfl,by rw [hz];rfl⟩)
     | cases hs
  ·cases hs
 case convert s d x=>
  split at hk
  ·rename_i y hy
   simp only [hy,lR] at hs ⊢
   split at hs
   all_goals first
    | (obtain ⟨z,hz,he⟩:=Option.bind_eq_some_iff.1 hs;cases he;exact ⟨rfl,by rw [hz];rfl⟩)
    | (split at hs
       ·obtain ⟨z,hz,he⟩:=Option.bind_eq_some_iff.1 hs;cases he;exact ⟨rfl,by simp only [*,Option.bind_some]⟩
       ·cases hs)
    | cases hs
  ·cases hk
 case extract x i=>
  split at hs
  ·split at hs
   ·cases hs;exact ⟨rfl,rfl⟩
   ·cases hs
  ·cases hs
theorem DL {o:Oper} (hb:floatB o=true):bN Γ o=true:=by
 unfold floatB at hb
 unfold bN
 split at hb<;>first | (rename_i hop;rw [hop]) | cases hb
end
def loadB (o:Oper):Bool:=match o.op with | .load _ _=>true | _=>false
section
variable {P:Program} {Γ:FuncId->Option FSig} {C:IV->List Nat->List (List IV)->Option (List IV)} {h h':List Ob} {p:PV} {fr:List PV}
theorem GP {o:Oper} (hb:loadB o=true):bN Γ o=true:=by
 unfold loadB at hb
 unfold bN
 split at hb<;>first | (rename_i hop;rw [hop]) | cases hb
theorem LV {q:Nat} (h1:h.length<=q):getOb h q= .dead:=by unfold getOb;rw [List.getD_eq_getElem?_getD,List.getElem?_eq_none h1];rfl
theorem PN {S:List Nat} {o:Oper} (hb:loadB o=true) (hk:Cn S o fr=true) (hs:b5 P Γ C o ⟨fr,h⟩=some (p,h')) (H:List Ob) (hH: ∀q∈S,q < h.length->getOb H q=getOb h q):h'=h/\b5 P Γ C o ⟨fr,H⟩=some (p,H):=by
 obtain ⟨dst,op,type,pos,after,guard⟩:=o
 cases op<;>simp only [loadB,reduceCtorEq] at hb
 case load t a=>
  simp only [Cn] at hk
  split at hk
  ·rename_i q j hq
   have hm:q∈S:=by simpa using hk
   simp only [b5,eC] at hs ⊢
   rw [hq] at hs ⊢
   have hql:q < h.length:=by
    rcases Nat.lt_or_ge q h.length with h1 | h1
    ·exact h1
    ·exfalso
     simp only [loadT,LV h1] at hs
     repeat' split at hs
     all_goals cases hs
   simp only [loadT,hH q hm hql] at hs ⊢
   split at hs
   ·rename_i h1
    rw [if_pos h1]
    split at hs
    ·split at hs
     ·rename_i h2
      cases hs
      exact ⟨rfl,by rw [if_pos h2]⟩
     ·cases hs
    ·cases hs
   ·rename_i h1
    rw [if_neg h1]
    split at hs
    ·rename_i h2
     rw [if_pos h2]
     split at hs
     ·split at hs
      ·cases hs
       exact ⟨rfl,rfl⟩
      ·cases hs
     ·cases hs
    ·cases hs
  ·cases hk
theorem Ui {S:List Nat} {o:Oper} (hb:floatB o=true\/loadB o=true) (hk:Cn S o fr=true) (hs:b5 P Γ C o ⟨fr,h⟩=some (p,h')) (H:List Ob) (hH: ∀q∈S,q < h.length->getOb H q=getOb h q):h'=h/\b5 P Γ C o ⟨fr,H⟩=some (p,H):=by
 rcases hb with hb | hb
 ·by_cases hsl: ∃t x lo hi mx,o.op= .slice t x lo hi mx
  ·obtain ⟨t,x,lo,hi,mx,hop⟩:=hsl
   by_cases hnb:Ms (ev fr x)=true
   ·exact wA hb (by unfold okF;rw [hop];exact hnb) hs H
   ·unfold Cn at hk
    rw [hop] at hk
    simp only [hnb,Bool.false_or] at hk
    split at hk
    ·rename_i q n hq
     have hm: ∀{md:Md} {sz:Nat} {x:IV},getOb h q= .arr md sz x->getOb H q=getOb h q:=fun {md sz x} hg=>hH q (by simpa using hk) (by
      rcases Nat.lt_or_ge q h.length with h1 | h1
      ·exact h1
      ·rw [LV h1] at hg;cases hg)
     unfold b5 eC at hs ⊢
     rw [hop] at hs ⊢
     cases mx with
     | none=>
       simp only [hq] at hs ⊢
       split at hs
       ·rename_i h1 _ _;cases h1
       ·rename_i h1 h2 h3
        cases h1
        split at hs
        ·rename_i hc
         split at hs
         ·rename_i hg
          split at hs
          ·rename_i hsz
           obtain ⟨z,hz,he⟩:=Option.bind_eq_some_iff.1 hs
           cases he
           exact ⟨rfl,by simp only [h2,h3,if_pos hc,hm hg,hg,if_pos hsz,hz,Option.bind_some]⟩
          ·cases hs
         ·cases hs
        ·cases hs
       ·rename_i h1 _ _;cases h1
       ·cases hs
     | some m=>
       cases lo with
       | some y=>cases hi<;>cases hs
       | none=>
         cases hi with
         | none=>cases hs
         | some y=>
           simp only [hq] at hs ⊢
           split at hs
           ·rename_i h1 h2 h3
            cases h1
            split at hs
            ·rename_i hc
             split at hs
             ·rename_i hg
              split at hs
              ·rename_i hsz
               obtain ⟨z,hz,he⟩:=Option.bind_eq_some_iff.1 hs
               cases he
               exact ⟨rfl,by simp only [h2,h3,if_pos hc,hm hg,hg,if_pos hsz,hz,Option.bind_some]⟩
              ·cases hs
             ·cases hs
            ·cases hs
           ·cases hs
    ·cases hk
  ·have hk':okF o fr=true:=by
    unfold Cn at hk
    split at hk
    ·rename_i hop;simp [floatB,hop] at hb
    ·rename_i hop;exact absurd ⟨_,_,_,_,_,hop⟩ hsl
    ·exact hk
   exact wA hb hk' hs H
 ·exact PN hb hk hs H hH
theorem Vf {S:List Nat×Bool} {o:Oper} {q:Nat} (hm:q∈S.1) (hql:q < h.length) (hlk:S.2=true->isRw (getOb h q)=false) (hk:Kv S o fr=true) (hs:b5 P Γ C o ⟨fr,h⟩=some (p,h')):getOb h' q=getOb h q:=by
 unfold Kv at hk
 split at hk
 ·rename_i he;rw [he] at hm;cases hm
 ·split at hk
  ·rename_i t a v hop
   split at hk
   ·rename_i q' j hq
    have hne:q'≠q:=fun e=>by subst e;simp [hm] at hk
    unfold b5 eC at hs
    rw [hop] at hs
    simp only [hq] at hs
    unfold storeT at hs
    split at hs
    ·simp only at hs
     split at hs
     ·split at hs
      ·cases hs
       rw [aR,if_neg (fun e=>hne e.1)]
      ·cases hs
     ·cases hs
    ·cases hs
   ·cases hk
  ·rename_i c hop
   rcases Bool.or_eq_true_iff.1 hk with hk | hk
   ·exact (nf hs).keep q hql (hlk hk)
   ·split at hk
    ·rename_i hcal
     split at hk
     ·rename_i x l hl
      unfold b5 eC at hs
      rw [hop] at hs
      simp only [hcal,hl,List.map_cons] at hs
      split at hs
      ·cases hs
      ·split at hk
       ·rename_i hx
        rw [hx] at hs
        unfold lr at hs
        split at hs<;>(try contradiction)<;>(try cases hs)<;>rename_i hh<;>(try (simp at hh;done))
        all_goals
         repeat' split at hs
         all_goals first
          | cases hs
          | (obtain ⟨z,hz,he⟩:=Option.bind_eq_some_iff.1 hs;cases he;rw [an,if_pos hql])
       ·rename_i q' n hx
        have hne:q'≠q:=fun e=>by subst e;simp [hm] at hk
        rw [hx] at hs
        unfold lr at hs
        split at hs<;>(try contradiction)<;>(try cases hs)<;>rename_i hh<;>(try (simp at hh;done))
        all_goals
         simp only [List.cons.injEq,PV.buf.injEq] at hh
         repeat' split at hs
         all_goals first
          | cases hs
          | (obtain ⟨z,hz,he⟩:=Option.bind_eq_some_iff.1 hs;cases he;rw [an,if_pos (by simpa using hql),aR,if_neg (fun e=>hne (by first | exact hh.1.1.trans e.1 | exact e.1 | omega))])
       ·cases hk
     ·cases hk
    ·cases hk
  ·simp only [Bool.and_eq_true] at hk
   rw [(wA hk.1 hk.2 hs h).1]
theorem Yz {o:Oper} {a:Act} {w:World} {ok:Nat->Prop} {mu:Mu} (hΓ:ak P Γ) (hC:COK P C) (hb:allocB o=true) (hs:YE P Γ C o fr=some p) (hf:Fr w ok mu fr a.tmps) (iq:InvQ w ok mu h):aq P o a w ok mu h p h:=by
 have hq:bN Γ o=true:=by
  unfold allocB at hb
  unfold bN
  split at hb
  ·rename_i h1 _;rw [h1]
  ·cases hb
 unfold YE at hs
 split at hs
 ·rename_i n sz es hst
  cases hs
  have hf0:Fr w ok (fun _=>none) (A3 fr) a.tmps:=by
   refine ⟨by simp [A3,hf.size],fun t p v h1 h2=> ?_⟩
   unfold A3 at h1
   rw [List.getElem?_map] at h1
   obtain ⟨p0,h3,rfl⟩:=Option.map_eq_some_iff.1 h1
   have r:=hf.rel t p0 v h3 h2
   cases p0 with
   | imm x=>cases r with | imm r=>exact .imm r
   | _=>exact .undef _
  have iq0:InvQ w ok (fun _=>none) []:=⟨iq.okw,fun _ _ h=>by (cases h),fun _ _ _ _ h=>by (cases h)⟩
  obtain ⟨news,fz,h1,hfz,hh,hd⟩:=Oj (st:=⟨A3 fr,[]⟩) hΓ hC hst hq hf0 iq0 (fun _=>rfl)
  refine ⟨[],[],h,rfl,by simp,hd.mono fun v w' ⟨ok',mu',g⟩=> ?_⟩
  have hnews:news=[.arr .rw sz (.lst es)]:=by
   have hl:=(dx hfz).len
   have h1e:h1=[]:=List.length_eq_zero_iff.1 (by simpa using hl)
   subst h1e
   simpa using hh.symm
  subst hnews
  rcases g.obs with ⟨h2,_⟩ | ⟨ob,pl,h2,h3,h4,h5,h6⟩
  ·cases h2
  ·simp only [List.cons.injEq,and_true] at h2
   subst h2
   have h3':mu' 0=some pl:=h3
   have iq1:InvQ w' ok' mu' [.arr .rw sz (.lst es)]:=by
    refine ⟨fun b hb=> ?_,fun q pl' hq'=> ?_,fun q pl' b base hq' hb=> ?_⟩
    ·rcases g.new b hb with h7 | h7 | ⟨o',_,pl',base,h8,_⟩
     ·exact Nat.lt_of_lt_of_le (iq.okw b h7) g.below.size
     ·exact h7.2
     ·cases h8
    ·by_cases e:q=0
     ·subst e
      rw [h3'] at hq';cases hq'
      exact h5
     ·have:=g.same q (by simpa using e)
      rw [this] at hq';cases hq'
    ·by_cases e:q=0
     ·subst e
      rw [h3'] at hq';cases hq'
      exact (h6 b base hb).2.1
     ·have:=g.same q (by simpa using e)
      rw [this] at hq';cases hq'
   have hrv:RV w' (fX ok' mu' [0]) (.lst es) v:=l7 iq1 1 (.buf 0 n) (.lst es) v rfl g.rp
   refine ⟨fX ok' mu' [0],mu,g.below,fun b hb=> .inl (g.more b hb),fun b hb=> ?_,fun _ _=>rfl,.inl ⟨rfl,rfl⟩,.imm hrv⟩
   rcases hb with hb | ⟨o',ho',pl',base,h7,h8⟩
   ·rcases g.new b hb with h7 | h7 | ⟨o',_,pl',base,h8,_⟩
    ·exact .inl h7
    ·exact .inr (.inl h7)
    ·cases h8
   ·rw [List.mem_singleton.1 ho',h3'] at h7;cases h7
    exact .inr (.inl ⟨(h6 b base h8).1,(h6 b base h8).2.1⟩)
 ·cases hs
end
def R4 (o:Oper):Bool:=
 match o.op with
 | .call c=>(match c.callee with | .builtin b=>Xy b | _=>false)
 | _=>false
def quietA (Γ:FuncId->Option FSig) (o:Oper):Bool:=bN Γ o||R4 o
section
variable {P:Program} {Γ:FuncId->Option FSig} {C:IV->List Nat->List (List IV)->Option (List IV)} {h h':List Ob} {p:PV} {fr fr':List PV}
theorem Rn {o:Oper} (hb:R4 o=true) (hk:Tf o fr=true): ∃c x l,o.op= .call c/\c.callee= .builtin .append/\c.args.toList=x::l/\ev fr x= .nils:=by
 unfold R4 at hb
 split at hb
 ·rename_i c hop
  split at hb
  ·rename_i b hc
   cases b<;>simp [Xy] at hb
   unfold Tf at hk
   rw [hop] at hk
   simp only [hc] at hk
   split at hk
   ·rename_i x l hl
    refine ⟨c,x,l,hop,hc,hl,?_⟩
    unfold Wg at hk
    split at hk
    ·assumption
    ·cases hk
   ·cases hk
  ·cases hb
 ·cases hb
theorem S3 {o:Oper} {st:St} (hq:bN Γ o=true\/(R4 o=true/\Tf o st.fr=true)) (hs:b5 P Γ C o st=some (p,h')):SubH st.h h':=by
 rcases hq with hq | ⟨hb,hk⟩
 ·exact US hq hs
 ·obtain ⟨c,x,l,hop,hc,hl,hx⟩:=Rn hb hk
  unfold b5 eC at hs
  rw [hop] at hs
  simp only [hc,hl,List.map_cons,hx] at hs
  split at hs
  ·cases hs
  ·unfold lr at hs
   repeat' split at hs
   all_goals first
    | (cases hs;done)
    | (rename_i e _;cases e;done)
    | (obtain ⟨r,_,he⟩:=Option.bind_eq_some_iff.1 hs;cases he;exact .append _ _)
    | (exfalso;simp_all;done)
theorem Yi {o:Oper} {a:Act} {w:World} {ok:Nat->Prop} {mu:Mu} {st:St} (hΓ:ak P Γ) (hC:COK P C) (hs:b5 P Γ C o st=some (p,h')) (hq:bN Γ o=true\/(R4 o=true/\Tf o st.fr=true)) (hf:Fr w ok mu st.fr a.tmps) (iq:InvQ w ok mu st.h) (hn:h'.length≠st.h.length->mu st.h.length=none):aq P o a w ok mu st.h p h':=by
 rcases hq with hq | ⟨hb,hk⟩
 ·exact Oj hΓ hC hs hq hf iq hn
 ·obtain ⟨c,x,l,hop,hc,hl,hx⟩:=Rn hb hk
  unfold b5 eC at hs
  rw [hop] at hs
  simp only [hc,hl,List.map_cons,hx] at hs
  split at hs
  ·cases hs
  ·rename_i hsz
   have hsz:c.argTypes.size=c.args.size:=by simpa using hsz
   cases l with
   | nil=>simp [lr] at hs
   | cons y l=>
     cases l with
     | cons z l=>simp [lr] at hs
     | nil=>
       simp only [List.map_cons,List.map_nil,lr] at hs
       have hargs:c.args= #[x,y]:=by rw [<-Array.toList_inj];simpa using hl
       have hat:c.argTypes.size=2:=by rw [hsz,hargs];rfl
       split at hs
       ·rename_i hc3
        split at hs
        ·rename_i ys hys
         obtain ⟨z,hz,he⟩:=Option.bind_eq_some_iff.1 hs
         cases he
         exact AU hop hc hargs hat hc3.1 hc3.2.1 hc3.2.2 iq (hn (by simp)) (hf.ev x) (hf.ev y) hx hys hz
        ·cases hs
       ·cases hs
end
end Go.AM
namespace Go.AM
open Go.RowKit
def O9 (ops:Array Oper):Array Nat:=ops.foldl (fun acc o=>acc.push (o.after.foldl (fun s e=>if Region.binds .any e then s|||2 ^ e.on|||acc.getD e.on 0 else s) 0)) #[]
inductive Pre (ops:Array Oper):Nat->Nat->Prop
 | edge {j:Nat} {o:Oper} {e:Edge} (h:ops[j]? =some o) (he:e∈o.after) (hb:Region.binds .any e=true):Pre ops j e.on
 | trans {j:Nat} {o:Oper} {e:Edge} {i:Nat} (h:ops[j]? =some o) (he:e∈o.after) (hb:Region.binds .any e=true) (hp:Pre ops e.on i):Pre ops j i
theorem Jl (ops:Array Oper): ∀j i,((O9 ops).getD j 0).testBit i=true->Pre ops j i:=by
 have key:=Array.foldl_induction (as:=ops) (motive:=fun k acc=>acc.size=k/\ ∀j i,(acc.getD j 0).testBit i=true->Pre ops j i) (init:= #[])
  (f:=fun acc o=>acc.push (o.after.foldl (fun s e=>if Region.binds .any e then s|||2 ^ e.on|||acc.getD e.on 0 else s) 0)) ⟨rfl,fun j i h=>by simp at h⟩ (by
    intro k acc ih
    obtain ⟨hsz,hacc⟩:=ih
    have hk:ops[k.1]? =some ops[k]:=Array.getElem?_eq_getElem k.2
    have inner:=Array.foldl_induction (as:=ops[k].after) (motive:=fun _ s=> ∀i,Nat.testBit s i=true->Pre ops k i) (init:=0)
     (f:=fun s e=>if Region.binds .any e then s|||2 ^ e.on|||acc.getD e.on 0 else s) (fun i h=>by simp at h) (by
       intro q s ihs i hi
       by_cases hb:Region.binds .any ops[k].after[q]=true
       ·rw [if_pos hb] at hi
        simp only [Nat.testBit_or,Bool.or_eq_true] at hi
        rcases hi with (hi | hi) | hi
        ·exact ihs i hi
        ·rw [Nat.testBit_two_pow] at hi
         have:ops[k].after[q].on=i:=by simpa using hi
         rw [<-this]
         exact .edge hk (Array.getElem_mem q.2) hb
        ·exact .trans hk (Array.getElem_mem q.2) hb (hacc _ i hi)
       ·rw [if_neg hb] at hi
        exact ihs i hi)
    refine ⟨by simp [hsz],fun j i hi=> ?_⟩
    rw [Array.getD_eq_getD_getElem?,Array.getElem?_push] at hi
    split at hi
    ·rename_i e
     simp only [Option.getD_some] at hi
     rw [e,hsz]
     exact inner i hi
    ·refine hacc j i ?_
     rw [Array.getD_eq_getD_getElem?]
     exact hi)
 exact key.2
def LU (ops:Array Oper):Nat->List Nat->Bool
 | _,[]=>true
 | s,i::l=>(match ops[i]? with | some o=>o.after.all (fun e=> !Region.binds .any e||Nat.testBit s e.on) | none=>false)&&LU ops (s|||2 ^ i) l
theorem IH (ops:Array Oper): ∀(l:List Nat) (s:Nat),LU ops s l=true-> ∀(k j:Nat) (o:Oper) (e:Edge),l[k]? =some j->ops[j]? =some o->e∈o.after->Region.binds .any e=true->Nat.testBit s e.on=true\/ ∃k':Nat,k' < k/\l[k']? =some e.on
 | [],s,_,k,j,o,e,hk,_,_,_=>by simp at hk
 | i::l,s,h,k,j,o,e,hk,ho,he,hb=>by
   simp only [LU,Bool.and_eq_true] at h
   cases k with
   | zero=>
     simp at hk;subst hk
     rw [ho] at h
     have:=Array.all_eq_true_iff_forall_mem.1 h.1 e he
     simp only [hb,Bool.not_true,Bool.false_or] at this
     exact .inl this
   | succ k=>
     rcases IH ops l _ h.2 k j o e (by simpa using hk) ho he hb with h1 | ⟨k',h1,h2⟩
     ·simp only [Nat.testBit_or,Bool.or_eq_true] at h1
      rcases h1 with h1 | h1
      ·exact .inl h1
      ·rw [Nat.testBit_two_pow] at h1
       have:i=e.on:=by simpa using h1
       exact .inr ⟨0,by omega,by simp [this]⟩
     ·exact .inr ⟨k'+1,by omega,by simpa using h2⟩
def OC (pm:Array Nat):List Nat->List Nat->Bool
 | _,[]=>true
 | done,b::l=>done.all (fun i=>Nat.testBit (pm.getD b 0) i)&&OC pm (b::done) l
theorem Du (pm:Array Nat): ∀(l done:List Nat),OC pm done l=true-> ∀(k b:Nat),l[k]? =some b->(∀i∈done,Nat.testBit (pm.getD b 0) i=true)/\ ∀(k' i:Nat),k' < k->l[k']? =some i->Nat.testBit (pm.getD b 0) i=true
 | [],_,_,k,b,hk=>by simp at hk
 | x::l,done,h,k,b,hk=>by
   simp only [OC,Bool.and_eq_true] at h
   cases k with
   | zero=>
     simp at hk;subst hk
     exact ⟨fun i hi=>List.all_eq_true.1 h.1 i hi,fun k' i hk'=>by omega⟩
   | succ k=>
     obtain ⟨h1,h2⟩:=Du pm l (x::done) h.2 k b (by simpa using hk)
     refine ⟨fun i hi=>h1 i (List.mem_cons_of_mem _ hi),fun k' i hk' hi=> ?_⟩
     cases k' with
     | zero=>simp at hi;subst hi;exact h1 _ List.mem_cons_self
     | succ k'=>exact h2 k' i (by omega) (by simpa using hi)
def Za (ops:Array Oper) (pm:Array Nat):Bool:=
 (List.range ops.size).all fun j=>match ops[j]? with
   | some o=>(o.looksAt ops).all fun t=>(List.range ops.size).all fun i=>match ops[i]? with
     | some oi=>oi.dst !=some t||i==j||Nat.testBit (pm.getD j 0) i||Nat.testBit (pm.getD i 0) j
     | none=>true
   | none=>true
theorem Dq: ∀{l:List Nat},cC l=true-> ∀(k k' j:Nat),l[k]? =some j->l[k']? =some j->k=k'
 | [],_,k,k',j,hk,_=>by simp at hk
 | x::l,h,k,k',j,hk,hk'=>by
   simp only [cC,Bool.and_eq_true,Bool.not_eq_true',List.contains_eq_mem,decide_eq_false_iff_not] at h
   cases k with
   | zero=>
     cases k' with
     | zero=>rfl
     | succ k'=>
       simp at hk hk'
       subst hk
       exact absurd (List.mem_of_getElem? hk') h.1
   | succ k=>
     cases k' with
     | zero=>
       simp at hk hk'
       subst hk'
       exact absurd (List.mem_of_getElem? hk) h.1
     | succ k'=>rw [Dq h.2 k k' j (by simpa using hk) (by simpa using hk')]
def F2 (Γ:FuncId->Option FSig) (ops:Array Oper) (F A B:List Nat):Bool:=
 let ord:=A++(F++B)
 let pm:=O9 ops
 cC ord&&(List.range ops.size).all (fun j=>ord.contains j)&&cC (ops.toList.filterMap (·.dst))&&
 (A++F).all (fun i=>match ops[i]? with | some o=>quietA Γ o | none=>false)&&
 F.all (fun i=>match ops[i]? with | some o=>floatB o||loadB o||allocB o | none=>false)&&
 LU ops 0 ord&&Za ops pm&&OC pm A B
structure DCtx (Γ:FuncId->Option FSig) (ops:Array Oper) (ord:List Nat) (nF nA:Nat):Prop where
 nd: ∀(k k' j:Nat),ord[k]? =some j->ord[k']? =some j->k=k'
 all: ∀j,j < ops.size-> ∃k:Nat,ord[k]? =some j
 dst: ∀(i j:Nat) (oi oj:Oper) (t:Nat),ops[i]? =some oi->ops[j]? =some oj->oi.dst=some t->oj.dst=some t->i=j
 q: ∀(k j:Nat) (o:Oper),k < nA->ord[k]? =some j->ops[j]? =some o->quietA Γ o=true
 fl: ∀(k j:Nat) (o:Oper),nF<=k->k < nA->ord[k]? =some j->ops[j]? =some o->(floatB o=true\/loadB o=true)\/allocB o=true
 topo: ∀(k j:Nat) (o:Oper) (e:Edge),ord[k]? =some j->ops[j]? =some o->e∈o.after->Region.binds .any e=true-> ∃k':Nat,k' < k/\ord[k']? =some e.on
 look: ∀(j:Nat) (o:Oper) (t i:Nat) (oi:Oper),ops[j]? =some o->t∈o.looksAt ops->ops[i]? =some oi->oi.dst=some t->i=j\/Pre ops j i\/Pre ops i j
 wait: ∀(k j:Nat),nA<=k->ord[k]? =some j-> ∀(k' i:Nat),(k' < nF\/nA<=k')->k' < k->ord[k']? =some i->Pre ops j i
 le:nF<=nA
 len:nA<=ord.length
theorem yp {ops:Array Oper} (h:cC (ops.toList.filterMap (·.dst))=true): ∀(i j:Nat) (oi oj:Oper) (t:Nat),ops[i]? =some oi->ops[j]? =some oj->oi.dst=some t->oj.dst=some t->i=j:=by
 have key: ∀(l:List Oper),cC (l.filterMap (·.dst))=true-> ∀(i j:Nat) (oi oj:Oper) (t:Nat),l[i]? =some oi->l[j]? =some oj->oi.dst=some t->oj.dst=some t->i=j:=by
  intro l
  induction l with
  | nil=>intro _ i j oi oj t hi;simp at hi
  | cons x l ih=>
    intro h i j oi oj t hi hj h1 h2
    have hin: ∀(i:Nat) (o:Oper),l[i]? =some o->o.dst=some t->t∈l.filterMap (·.dst):=fun i o hi ho=>List.mem_filterMap.2 ⟨o,List.mem_of_getElem? hi,ho⟩
    cases i with
    | zero=>
      cases j with
      | zero=>rfl
      | succ j=>
        simp at hi hj;subst hi
        simp only [List.filterMap_cons,h1,cC,Bool.and_eq_true,Bool.not_eq_true',List.contains_eq_mem,decide_eq_false_iff_not] at h
        exact absurd (hin j oj hj h2) h.1
    | succ i=>
      have htail:cC (l.filterMap (·.dst))=true:=by
       simp only [List.filterMap_cons] at h
       split at h
       ·exact h
       ·simp only [cC,Bool.and_eq_true] at h;exact h.2
      cases j with
      | zero=>
        simp at hi hj;subst hj
        simp only [List.filterMap_cons,h2,cC,Bool.and_eq_true,Bool.not_eq_true',List.contains_eq_mem,decide_eq_false_iff_not] at h
        exact absurd (hin i oi hi h1) h.1
      | succ j=>rw [ih htail i j oi oj t (by simpa using hi) (by simpa using hj) h1 h2]
 intro i j oi oj t hi hj
 exact key ops.toList h i j oi oj t (by simpa using hi) (by simpa using hj)
theorem QO {Γ:FuncId->Option FSig} {ops:Array Oper} {F A B:List Nat} (h:F2 Γ ops F A B=true):DCtx Γ ops (A++(F++B)) A.length (A++F).length:=by
 simp only [F2,Bool.and_eq_true] at h
 obtain ⟨⟨⟨⟨⟨⟨⟨h1,h2⟩,h3⟩,h4⟩,h5⟩,h6⟩,h7⟩,h8⟩:=h
 have hpm:=Jl ops
 refine ⟨Dq h1,fun j hj=> ?_,yp h3,fun k j o hk hj ho=> ?_,fun k j o hk1 hk hj ho=> ?_,fun k j o e hk ho he hb=> ?_,fun j o t i oi ho ht hi hd=> ?_,fun k j hk hj k' i hk' hlt hi=> ?_,by simp,by simp⟩
 ·have:=List.all_eq_true.1 h2 j (List.mem_range.2 hj)
  rw [List.contains_eq_mem,decide_eq_true_eq] at this
  exact List.mem_iff_getElem?.1 this
 ·have hm:j∈A++F:=by
   have:(A++F)[k]? =some j:=by
    rw [<-List.append_assoc,List.getElem?_append_left hk] at hj;exact hj
   exact List.mem_of_getElem? this
  have:=List.all_eq_true.1 h4 j hm
  rwa [ho] at this
 ·have hm:j∈F:=by
   rw [<-List.append_assoc,List.getElem?_append_left hk,List.getElem?_append_right hk1] at hj
   exact List.mem_of_getElem? hj
  have:=List.all_eq_true.1 h5 j hm
  rw [ho] at this
  simpa using this
 ·rcases IH ops _ 0 h6 k j o e hk ho he hb with h9 | h9
  ·simp at h9
  ·exact h9
 ·have hlt: ∀{i:Nat} {o:Oper},ops[i]? =some o->i∈List.range ops.size:=fun h=>List.mem_range.2 (Array.getElem?_eq_some_iff.1 h).1
  have a1:=List.all_eq_true.1 h7 j (hlt ho)
  rw [ho] at a1
  have a2:=List.all_eq_true.1 a1 t ht
  have a3:=List.all_eq_true.1 a2 i (hlt hi)
  rw [hi] at a3
  simp only [hd,bne_self_eq_false,Bool.false_or,Bool.or_eq_true,beq_iff_eq] at a3
  rcases a3 with (a3 | a3) | a3
  ·exact .inl a3
  ·exact .inr (.inl (hpm _ _ a3))
  ·exact .inr (.inr (hpm _ _ a3))
 ·rw [<-List.append_assoc] at hj hi
  rw [List.getElem?_append_right hk] at hj
  obtain ⟨w1,w2⟩:=Du _ B A h8 _ _ hj
  rcases hk' with h9 | h9
  ·rw [List.getElem?_append_left (by rw [List.length_append];omega),List.getElem?_append_left h9] at hi
   exact hpm _ _ (w1 i (List.mem_of_getElem? hi))
  ·rw [List.getElem?_append_right h9] at hi
   exact hpm _ _ (w2 _ i (by omega) hi)
theorem Pre.pos {Γ:FuncId->Option FSig} {ops:Array Oper} {ord:List Nat} {nF nA:Nat} (D:DCtx Γ ops ord nF nA) {j i:Nat} (p:Pre ops j i): ∀k:Nat,ord[k]? =some j-> ∃k':Nat,k' < k/\ord[k']? =some i:=by
 induction p with
 | edge h he hb=>exact fun k hk=>D.topo k _ _ _ hk h he hb
 | trans h he hb _ ih=>
   intro k hk
   obtain ⟨k1,h1,h2⟩:=D.topo k _ _ _ hk h he hb
   obtain ⟨k2,h3,h4⟩:=ih k1 h2
   exact ⟨k2,by omega,h4⟩
end Go.AM
namespace Go.AM
open Go.RowKit
def okAt (S:List Nat×Bool) (nF nA k:Nat) (o:Oper) (fr:List PV):Bool:=if k < nF then Tf o fr else if k < nA then (allocB o||Cn S.1 o fr) else Kv S o fr
def stepX (P:Program) (Γ:FuncId->Option FSig) (C:IV->List Nat->List (List IV)->Option (List IV)) (nF nA k:Nat) (o:Oper) (st:St):Option (PV×List Ob):=
 if nF<=k/\k < nA/\allocB o=true then (YE P Γ C o st.fr).map fun p=>(p,st.h) else b5 P Γ C o st
structure Trc (P:Program) (Γ:FuncId->Option FSig) (C:IV->List Nat->List (List IV)->Option (List IV)) (ops:Array Oper) (ord:List Nat) (nF nA:Nat) (S:List Nat×Bool) (sts:Nat->St) (ps:Nat->PV) (gs:Nat->Bool):Prop where
 step: ∀(k j:Nat),ord[k]? =some j-> ∃o:Oper,ops[j]? =some o/\guardVal ops o (sts k).fr=some (gs k)/\(gs k=true->stepX P Γ C nF nA k o (sts k)=some (ps k,(sts (k+1)).h))/\(gs k=false->ps k= .skip/\(sts (k+1)).h=(sts k).h)/\
  (sts (k+1)).fr=setDst (sts k).fr o.dst (ps k)/\okAt S nF nA k o (sts k).fr=true
def Xj {α:Type} (x:α) (f:Nat->α):Nat->α
 | 0=>x
 | n+1=>f n
section
variable {P:Program} {Γ:FuncId->Option FSig} {C:IV->List Nat->List (List IV)->Option (List IV)} {ops:Array Oper} {R:Type}
theorem Trc.cons {S:List Nat×Bool} {l:List Nat} {nF nF' nA nA':Nat} {sts:Nat->St} {ps:Nat->PV} {gs:Nat->Bool} (T:Trc P Γ C ops l nF nA S sts ps gs) {st:St} {j:Nat} {o:Oper} {p:PV} {b:Bool} (ho:ops[j]? =some o) (hg:guardVal ops o st.fr=some b) (h1:b=true->stepX P Γ C nF' nA' 0 o st=some (p,(sts 0).h)) (h2:b=false->p= .skip/\(sts 0).h=st.h)
  (h3:(sts 0).fr=setDst st.fr o.dst p) (h4:okAt S nF' nA' 0 o st.fr=true) (h5:nF=nF' - 1) (h7:nA=nA' - 1):Trc P Γ C ops (j::l) nF' nA' S (Xj st sts) (Xj p ps) (Xj b gs):=by
 refine ⟨fun k i hk=> ?_⟩
 cases k with
 | zero=>simp at hk;subst hk;exact ⟨o,ho,hg,h1,h2,h3,h4⟩
 | succ k=>
   obtain ⟨o',a1,a2,a3,a4,a5,a6⟩:=T.step k i (by simpa using hk)
   have e1:(k+1 < nF')↔k < nF:=by omega
   have e2:(k+1 < nA')↔k < nA:=by omega
   have e3:(nF'<=k+1)↔nF<=k:=by omega
   refine ⟨o',a1,a2,fun hg=> ?_,a4,a5,?_⟩
   ·have:=a3 hg
    simp only [stepX,e2,e3] at this ⊢
    exact this
   ·have:okAt S nF' nA' (k+1) o'=okAt S nF nA k o':=by
     funext fr
     simp only [okAt,e1,e2]
    show okAt S nF' nA' (k+1) o' (sts k).fr=true
    rw [this];exact a6
theorem Om {S:List Nat×Bool} {k:St->Option R} {r:R}: ∀(l:List Nat) (st:St),(∀j∈l,j < ops.size)->oC P Γ C (Kv S) ops (l.filterMap (ops[·]?)) st k=some r-> ∃sts ps gs,sts 0=st/\Trc P Γ C ops l 0 0 S sts ps gs/\k (sts l.length)=some r
 | [],st,_,hs=>⟨fun _=>st,fun _=> .undef,fun _=>true,rfl,⟨fun k j hk=>by simp at hk⟩,hs⟩
 | j::l,st,hl,hs=>by
   have hj:ops[j]? =some (ops[j]'(hl j List.mem_cons_self)):=Array.getElem?_eq_getElem (hl j List.mem_cons_self)
   have hf:(j::l).filterMap (ops[·]?)=ops[j]'(hl j List.mem_cons_self)::l.filterMap (ops[·]?):=by simp [List.filterMap_cons,hj]
   rw [hf] at hs
   simp only [oC] at hs
   split at hs
   ·rename_i hok
    obtain ⟨b,hg,hcase⟩:=cp hs
    rcases hcase with ⟨rfl,p,h',hst,hrest⟩ | ⟨rfl,hrest⟩
    ·obtain ⟨sts,ps,gs,h0,T,hk⟩:=Om l _ (fun i hi=>hl i (List.mem_cons_of_mem _ hi)) hrest
     exact ⟨_,_,_,rfl,T.cons hj hg (fun _=>by rw [h0];simpa [stepX] using hst) (fun h=>by cases h) (by rw [h0]) (by simpa [okAt] using hok) rfl rfl,hk⟩
    ·obtain ⟨sts,ps,gs,h0,T,hk⟩:=Om l _ (fun i hi=>hl i (List.mem_cons_of_mem _ hi)) hrest
     exact ⟨_,_,_,rfl,T.cons (p:= .skip) hj hg (fun h=>by cases h) (fun _=>⟨rfl,by rw [h0]⟩) (by rw [h0]) (by simpa [okAt] using hok) rfl rfl,hk⟩
   ·cases hs
theorem Tn {o:Oper} (h:allocB o=true):o.guard=none:=by
 unfold allocB at h
 split at h
 ·assumption
 ·cases h
theorem Fx {S:List Nat×Bool} {k:St->Option R} {r:R} {l:List Nat} (hl: ∀j∈l,j < ops.size): ∀(F:List Nat) (st:St),(∀j∈F,j < ops.size)->nk P Γ C (Cn S.1) ops (F.filterMap (ops[·]?)) st (fun st'=>oC P Γ C (Kv S) ops (l.filterMap (ops[·]?)) st' k)=some r->
  ∃sts ps gs,sts 0=st/\Trc P Γ C ops (F++l) 0 F.length S sts ps gs/\k (sts (F++l).length)=some r
 | [],st,_,hs=>Om l st hl hs
 | j::F,st,hF,hs=>by
   have hj:ops[j]? =some (ops[j]'(hF j List.mem_cons_self)):=Array.getElem?_eq_getElem (hF j List.mem_cons_self)
   have hf:(j::F).filterMap (ops[·]?)=ops[j]'(hF j List.mem_cons_self)::F.filterMap (ops[·]?):=by simp [List.filterMap_cons,hj]
   rw [hf] at hs
   simp only [nk] at hs
   split at hs
   ·rename_i hal
    split at hs
    ·rename_i p hp
     obtain ⟨sts,ps,gs,h0,T,hk⟩:=Fx hl F _ (fun i hi=>hF i (List.mem_cons_of_mem _ hi)) hs
     exact ⟨_,_,_,rfl,T.cons (p:=p) (b:=true) hj (by unfold guardVal;rw [Tn hal]) (fun _=>by rw [h0];simp [stepX,hal,hp]) (fun h=>by cases h) (by rw [h0]) (by simp [okAt,hal]) rfl (by simp),hk⟩
    ·cases hs
   ·rename_i hal
    split at hs
    ·rename_i hok
     obtain ⟨b,hg,hcase⟩:=cp hs
     rcases hcase with ⟨rfl,p,h',hst,hrest⟩ | ⟨rfl,hrest⟩
     ·obtain ⟨sts,ps,gs,h0,T,hk⟩:=Fx hl F _ (fun i hi=>hF i (List.mem_cons_of_mem _ hi)) hrest
      exact ⟨_,_,_,rfl,T.cons hj hg (fun _=>by rw [h0];simpa [stepX,hal] using hst) (fun h=>by cases h) (by rw [h0]) (by simp [okAt,hok]) rfl (by simp),hk⟩
     ·obtain ⟨sts,ps,gs,h0,T,hk⟩:=Fx hl F _ (fun i hi=>hF i (List.mem_cons_of_mem _ hi)) hrest
      exact ⟨_,_,_,rfl,T.cons (p:= .skip) hj hg (fun h=>by cases h) (fun _=>⟨rfl,by rw [h0]⟩) (by rw [h0]) (by simp [okAt,hok]) rfl (by simp),hk⟩
    ·cases hs
theorem Hm {F l:List Nat} {k:St->Option R} {r:R} (hl: ∀j∈l,j < ops.size) (hF: ∀j∈F,j < ops.size): ∀(A:List Nat) (st:St),(∀j∈A,j < ops.size)->oC P Γ C Tf ops (A.filterMap (ops[·]?)) st (fun st1=>nk P Γ C (Cn (TX F ops st1.fr)) ops (F.filterMap (ops[·]?)) st1 fun st2=>oC P Γ C (Kv (V1 F ops st1)) ops (l.filterMap (ops[·]?)) st2 k)=some r->
  ∃S sts ps gs,sts 0=st/\Trc P Γ C ops (A++(F++l)) A.length (A++F).length S sts ps gs/\(S.2=true-> ∀q∈S.1,isRw (getOb (sts A.length).h q)=false)/\k (sts (A++(F++l)).length)=some r
 | [],st,_,hs=>by
   obtain ⟨sts,ps,gs,h0,T,hk⟩:=Fx (S:=V1 F ops st) hl F st hF hs
   refine ⟨_,sts,ps,gs,h0,T,fun h2 q hq=> ?_,hk⟩
   have:=List.all_eq_true.1 h2 q hq
   show isRw (getOb (sts 0).h q)=false
   rw [h0]
   simpa using this
 | j::A,st,hA,hs=>by
   have hj:ops[j]? =some (ops[j]'(hA j List.mem_cons_self)):=Array.getElem?_eq_getElem (hA j List.mem_cons_self)
   have hf:(j::A).filterMap (ops[·]?)=ops[j]'(hA j List.mem_cons_self)::A.filterMap (ops[·]?):=by simp [List.filterMap_cons,hj]
   rw [hf] at hs
   simp only [oC] at hs
   split at hs
   ·rename_i hok
    obtain ⟨b,hg,hcase⟩:=cp hs
    rcases hcase with ⟨rfl,p,h',hst,hrest⟩ | ⟨rfl,hrest⟩
    ·obtain ⟨S,sts,ps,gs,h0,T,hS,hk⟩:=Hm hl hF A _ (fun i hi=>hA i (List.mem_cons_of_mem _ hi)) hrest
     exact ⟨S,_,_,_,rfl,T.cons hj hg (fun _=>by rw [h0];simpa [stepX] using hst) (fun h=>by cases h) (by rw [h0]) (by simpa [okAt] using hok) (by simp) (by simp),hS,hk⟩
    ·obtain ⟨S,sts,ps,gs,h0,T,hS,hk⟩:=Hm hl hF A _ (fun i hi=>hA i (List.mem_cons_of_mem _ hi)) hrest
     exact ⟨S,_,_,_,rfl,T.cons (p:= .skip) hj hg (fun h=>by cases h) (fun _=>⟨rfl,by rw [h0]⟩) (by rw [h0]) (by simpa [okAt] using hok) (by simp) (by simp),hS,hk⟩
   ·cases hs
variable {ord:List Nat} {nF nA:Nat} {S:List Nat×Bool} {sts:Nat->St} {ps:Nat->PV} {gs:Nat->Bool}
theorem KL (fr:List PV) (d:Option Tmp) (p:PV):(setDst fr d p).length=fr.length:=by cases d<;>simp [setDst]
theorem Mb {fr:List PV} {d:Option Tmp} {p:PV} {t:Nat} (h:d≠some t):(setDst fr d p).getD t .undef=fr.getD t .undef:=by
 cases d with
 | none=>rfl
 | some d=>
   have:d≠t:=fun e=>h (by rw [e])
   simp [setDst,List.getD_eq_getElem?_getD,List.getElem?_set_ne this]
theorem UR {fr:List PV} {p:PV} {t:Nat} (h:t < fr.length):(setDst fr (some t) p).getD t .undef=p:=by
 simp [setDst,List.getD_eq_getElem?_getD,List.getElem?_set_self h]
theorem Trc.at (T:Trc P Γ C ops ord nF nA S sts ps gs) {k:Nat} (hk:k < ord.length): ∃j,ord[k]? =some j:=⟨ord[k],List.getElem?_eq_getElem hk⟩
theorem Trc.len (T:Trc P Γ C ops ord nF nA S sts ps gs): ∀k,k<=ord.length->(sts k).fr.length=(sts 0).fr.length
 | 0,_=>rfl
 | k+1,h=>by
   obtain ⟨j,hj⟩:=T.at (k:=k) (by omega)
   obtain ⟨o,_,_,_,_,h5,_⟩:=T.step k j hj
   rw [h5,KL]
   exact T.len k (by omega)
theorem Trc.ini (T:Trc P Γ C ops ord nF nA S sts ps gs) {t:Nat}: ∀k,k<=ord.length->(∀(k' j:Nat) (o:Oper),k' < k->ord[k']? =some j->ops[j]? =some o->o.dst≠some t)->(sts k).fr.getD t .undef=(sts 0).fr.getD t .undef
 | 0,_,_=>rfl
 | k+1,h,hn=>by
   obtain ⟨j,hj⟩:=T.at (k:=k) (by omega)
   obtain ⟨o,h1,_,_,_,h5,_⟩:=T.step k j hj
   rw [h5,Mb (hn k j o (by omega) hj h1)]
   exact T.ini k (by omega) fun k' j' o' h=>hn k' j' o' (by omega)
theorem Trc.fin (T:Trc P Γ C ops ord nF nA S sts ps gs) {t:Nat}: ∀(d k:Nat),k+d=ord.length->(∀(k' j:Nat) (o:Oper),k<=k'->ord[k']? =some j->ops[j]? =some o->o.dst≠some t)->(sts ord.length).fr.getD t .undef=(sts k).fr.getD t .undef
 | 0,k,h,_=>by rw [<-h];rfl
 | d+1,k,h,hn=>by
   obtain ⟨j,hj⟩:=T.at (k:=k) (by omega)
   obtain ⟨o,h1,_,_,_,h5,_⟩:=T.step k j hj
   rw [T.fin d (k+1) (by omega) fun k' j' o' h=>hn k' j' o' (by omega),h5,Mb (hn k j o (by omega) hj h1)]
theorem Trc.Tf (T:Trc P Γ C ops ord nF nA S sts ps gs) {k j:Nat} {o:Oper} (hk:k < nF) (hj:ord[k]? =some j) (ho:ops[j]? =some o):Tf o (sts k).fr=true:=by
 obtain ⟨o',h2,_,_,_,_,h3⟩:=T.step k j hj
 rw [ho] at h2;cases h2
 unfold okAt at h3
 rwa [if_pos hk] at h3
theorem Trc.Cn (T:Trc P Γ C ops ord nF nA S sts ps gs) {k j:Nat} {o:Oper} (hk:nF<=k) (hk2:k < nA) (hal: ¬allocB o=true) (hj:ord[k]? =some j) (ho:ops[j]? =some o):Cn S.1 o (sts k).fr=true:=by
 obtain ⟨o',h2,_,_,_,_,h3⟩:=T.step k j hj
 rw [ho] at h2;cases h2
 unfold okAt at h3
 rw [if_neg (by omega),if_pos hk2] at h3
 simpa [hal] using h3
theorem sV {nF nA k:Nat} {o:Oper} {st:St} (h: ¬(nF<=k/\k < nA/\allocB o=true)):stepX P Γ C nF nA k o st=b5 P Γ C o st:=if_neg h
theorem Bh {nF nA k:Nat} {o:Oper} {st:St} {p:PV} {h':List Ob} (h:nF<=k/\k < nA/\allocB o=true) (hs:stepX P Γ C nF nA k o st=some (p,h')):YE P Γ C o st.fr=some p/\h'=st.h:=by
 unfold stepX at hs
 rw [if_pos h] at hs
 obtain ⟨p',h1,h2⟩:=Option.map_eq_some_iff.1 hs
 cases h2
 exact ⟨h1,rfl⟩
theorem P9 {o:Oper} (hb:allocB o=true):bN Γ o=true:=by
 unfold allocB at hb
 unfold bN
 split at hb
 ·rename_i h1 _;rw [h1]
 ·cases hb
theorem Trc.Kv (T:Trc P Γ C ops ord nF nA S sts ps gs) (hle:nF<=nA) {k j:Nat} {o:Oper} (hk:nA<=k) (hj:ord[k]? =some j) (ho:ops[j]? =some o):Kv S o (sts k).fr=true:=by
 obtain ⟨o',h2,_,_,_,_,h3⟩:=T.step k j hj
 rw [ho] at h2;cases h2
 unfold okAt at h3
 rwa [if_neg (by omega),if_neg (by omega)] at h3
theorem Trc.quiet (T:Trc P Γ C ops ord nF nA S sts ps gs) (D:DCtx Γ ops ord nF nA) {k j:Nat} {o:Oper} (hk:k < nA) (hj:ord[k]? =some j) (ho:ops[j]? =some o):bN Γ o=true\/(R4 o=true/\AM.Tf o (sts k).fr=true):=by
 have hq:=D.q k j o hk hj ho
 unfold quietA at hq
 rcases Nat.lt_or_ge k nF with h1 | h1
 ·cases hb:bN Γ o with
  | true=>exact .inl rfl
  | false=>
    rw [hb,Bool.false_or] at hq
    exact .inr ⟨hq,T.Tf h1 hj ho⟩
 ·rcases D.fl k j o h1 hk hj ho with (h2 | h2) | h2
  ·exact .inl (DL h2)
  ·exact .inl (GP h2)
  ·exact .inl (P9 h2)
theorem Trc.sameF (T:Trc P Γ C ops ord nF nA S sts ps gs) (D:DCtx Γ ops ord nF nA) {k j:Nat} (hk:nF<=k) (hk2:k < nA) (hj:ord[k]? =some j):(sts (k+1)).h=(sts k).h:=by
 obtain ⟨o,h1,_,h3,h4,_⟩:=T.step k j hj
 cases hg:gs k with
 | false=>exact (h4 hg).2
 | true=>
   by_cases hal:allocB o=true
   ·exact (Bh ⟨hk,hk2,hal⟩ (h3 hg)).2
   have hok:=T.Cn hk hk2 hal hj h1
   have h3':=h3 hg
   rw [sV (fun h=>hal h.2.2)] at h3'
   exact (Ui ((D.fl k j o hk hk2 hj h1).resolve_right hal) hok (show b5 P Γ C o ⟨(sts k).fr,(sts k).h⟩=_ from h3') (sts k).h fun _ _ _=>rfl).1
theorem Trc.sameFs (T:Trc P Γ C ops ord nF nA S sts ps gs) (D:DCtx Γ ops ord nF nA): ∀(d k:Nat),nF<=k->k+d<=nA->(sts (k+d)).h=(sts k).h
 | 0,k,_,_=>rfl
 | d+1,k,h,h2=>by
   have hA:=D.len
   obtain ⟨j,hj⟩:=T.at (k:=k+d) (by omega)
   rw [<-T.sameFs D d k h (by omega)]
   exact T.sameF D (k:=k+d) (by omega) (by omega) hj
theorem Trc.prot (T:Trc P Γ C ops ord nF nA S sts ps gs) (D:DCtx Γ ops ord nF nA) {q:Nat} (hq:q∈S.1) (hS:S.2=true->isRw (getOb (sts nA).h q)=false) (hlt:q < (sts nA).h.length) (hmono: ∀d,nA+d<=ord.length->(sts nA).h.length<=(sts (nA+d)).h.length): ∀d,nA+d<=ord.length->getOb (sts (nA+d)).h q=getOb (sts nA).h q
 | 0,_=>rfl
 | d+1,h=>by
   obtain ⟨j,hj⟩:=T.at (k:=nA+d) (by omega)
   obtain ⟨o,h1,_,h3,h4,_⟩:=T.step (nA+d) j hj
   have ih:=T.prot D hq hS hlt hmono d (by omega)
   rw [<-ih]
   cases hg:gs (nA+d) with
   | false=>exact congrArg (getOb · q) (h4 hg).2
   | true=>
     have h3':=h3 hg
     rw [sV (fun h=>by omega)] at h3'
     exact Vf hq (Nat.lt_of_lt_of_le hlt (hmono d (by omega))) (fun h2=>by rw [ih];exact hS h2) (T.Kv D.le (by omega) hj h1) (show b5 P Γ C o ⟨(sts (nA+d)).fr,(sts (nA+d)).h⟩=_ from h3')
theorem Trc.sub (T:Trc P Γ C ops ord nF nA S sts ps gs) (D:DCtx Γ ops ord nF nA): ∀(d k:Nat),k+d<=nA->SubH (sts k).h (sts (k+d)).h
 | 0,k,h=> .refl _
 | d+1,k,h=>by
   have hA:=D.len
   obtain ⟨j,hj⟩:=T.at (k:=k+d) (by omega)
   obtain ⟨o,h1,_,h3,h4,_⟩:=T.step (k+d) j hj
   refine (T.sub D d k (by omega)).trans ?_
   cases hg:gs (k+d) with
   | true=>
     have h3':=h3 hg
     by_cases hal:nF<=k+d/\k+d < nA/\allocB o=true
     ·show SubH _ (sts (k+d+1)).h
      rw [(Bh hal h3').2];exact .refl _
     ·rw [sV hal] at h3'
      exact S3 (T.quiet D (by omega) hj h1) h3'
   | false=>show SubH _ (sts (k+d+1)).h;rw [(h4 hg).2];exact .refl _
theorem Trc.mono (T:Trc P Γ C ops ord nF nA S sts ps gs): ∀(d k:Nat),k+d<=ord.length->Stay (sts k).h (sts (k+d)).h
 | 0,k,h=> .refl _
 | d+1,k,h=>by
   obtain ⟨j,hj⟩:=T.at (k:=k+d) (by omega)
   obtain ⟨o,h1,_,h3,h4,_⟩:=T.step (k+d) j hj
   refine (T.mono d k (by omega)).trans ?_
   cases hg:gs (k+d) with
   | true=>
     have h3':=h3 hg
     by_cases hal:nF<=k+d/\k+d < nA/\allocB o=true
     ·show Stay _ (sts (k+d+1)).h
      rw [(Bh hal h3').2];exact .refl _
     ·rw [sV hal] at h3'
      exact nf h3'
   | false=>show Stay _ (sts (k+d+1)).h;rw [(h4 hg).2];exact .refl _
end
open Classical in
 noncomputable def cur (ops:Array Oper) (ini fin:List PV) (listed:Array Bool) (t:Nat):PV:=
  if ∃(i:Nat) (oi:Oper),ops[i]? =some oi/\oi.dst=some t/\listed.getD i false=true then fin.getD t .undef else ini.getD t .undef
theorem Mz {ops:Array Oper} {ini fin:List PV} {listed:Array Bool} {t:Nat} {i:Nat} {oi:Oper} (h1:ops[i]? =some oi) (h2:oi.dst=some t) (h3:listed.getD i false=true):cur ops ini fin listed t=fin.getD t .undef:=if_pos ⟨i,oi,h1,h2,h3⟩
theorem B3 {ops:Array Oper} {ini fin:List PV} {listed:Array Bool} {t:Nat} (h: ∀(i:Nat) (oi:Oper),ops[i]? =some oi->oi.dst=some t->listed.getD i false=true->False):cur ops ini fin listed t=ini.getD t .undef:=if_neg fun ⟨i,oi,h1,h2,h3⟩=>h i oi h1 h2 h3
theorem Inv.subH {w0:World} {ok0:O0} {w:World} {ok:Nat->Prop} {mu:Mu} {h H:List Ob} (i:Inv w0 ok0 w ok mu h) (hfresh: ∀q,h.length<=q->mu q=none) (s:SubH h H):Inv w0 ok0 w ok mu H:=by
 have hlt: ∀{o pl},mu o=some pl->o < h.length:=fun {o pl} ho=>by
  rcases Nat.lt_or_ge o h.length with h1 | h1
  ·exact h1
  ·rw [hfresh o h1] at ho;cases ho
 refine ⟨i.below,i.okw,i.okb,fun o pl ho=>(s.same o (hlt ho)).fX (i.ob o pl ho),fun o pl b base ho hb=> ?_,fun o o' pl pl' b base base' ho ho' hb hb' hlv hlv'=> ?_⟩
 ·obtain ⟨h1,h2,h3⟩:=i.own o pl b base ho hb
  refine ⟨h1,h2,fun hlv hnf=>h3 ?_ ?_⟩
  ·rw [<-(s.same o (hlt ho)).live];exact hlv
  ·cases hx:(getOb h o).fz with
   | false=>rfl
   | true=>rw [(s.same o (hlt ho)).fz hx] at hnf;cases hnf
 ·exact i.inj o o' pl pl' b base base' ho ho' hb hb' (by rw [<-(s.same o (hlt ho)).live];exact hlv) (by rw [<-(s.same o' (hlt ho')).live];exact hlv')
theorem Inv.drawn {w0:World} {ok0:O0} {w:World} {ok:Nat->Prop} {mu:Mu} {h:List Ob} (i:Inv w0 ok0 w ok mu h) (d:Nat):Inv w0 ok0 { w with drawn:=d } ok mu h/\Later w ok mu { w with drawn:=d } ok mu:=by
 have hl:Later w ok mu { w with drawn:=d } ok mu:=⟨⟨fun _ _=>rfl,fun _ h=>h⟩,fun _ _ h=>h,fun b c T z h=>⟨c,z,h,rfl⟩⟩
 exact ⟨⟨⟨i.below.os,i.below.tape,i.below.output,i.below.size,i.below.block⟩,i.okw,i.okb,fun o pl ho=>(i.ob o pl ho).later hl fun _ _ _=>rfl,i.own,i.inj⟩,hl⟩
structure DInv (P:Program) (ops:Array Oper) (ord:List Nat) (nA:Nat) (sts:Nat->St) (w0:World) (ok0:O0) (wS:World) (okS:Nat->Prop) (muS:Mu) (aS:Act) (listed:Array Bool) (a:Act) (w:World):Prop where
 size:listed.size=ops.size
 closed: ∀(j:Nat) (o:Oper),ops[j]? =some o->listed.getD j false=true-> ∀e∈o.after,Region.binds .any e=true->listed.getD e.on false=true
 tsize:a.tmps.size=(sts 0).fr.length
 defers:a.defers=aS.defers
 same: ∀t,t∉dsts ops.toList->a.tmps[t]? =aS.tmps[t]?
 ex: ∃(ok:Nat->Prop) (mu:Mu) (m:Nat),nA<=m/\m<=ord.length/\(∀(k j:Nat),nA<=k->ord[k]? =some j->(listed.getD j false=true↔k < m))/\Inv w0 ok0 w ok mu (sts m).h/\(∀o,(sts m).h.length<=o->mu o=none)/\
  (m=nA-> ∀o,mu o≠none->o < (sts 0).h.length\/ ∃k j:Nat,k < nA/\ord[k]? =some j/\listed.getD j false=true/\(sts k).h.length=o/\(sts (k+1)).h.length=o+1)/\
  (∀(t:Nat) (v:Value),a.tmps[t]? =some v->RP w ok mu (cur ops (sts 0).fr (sts ord.length).fr listed t) v)/\Later wS okS muS w ok mu
end Go.AM
namespace Go.AM
open Go.RowKit
section
variable {P:Program} {Γ:FuncId->Option FSig} {C:IV->List Nat->List (List IV)->Option (List IV)} {ops:Array Oper} {ord:List Nat} {nF nA:Nat} {S:List Nat×Bool} {sts:Nat->St} {ps:Nat->PV} {gs:Nat->Bool}
 {w0:World} {ok0:O0} {wS:World} {okS:Nat->Prop} {muS:Mu} {aS:Act}
theorem zx {listed:Array Bool} (hc: ∀(j:Nat) (o:Oper),ops[j]? =some o->listed.getD j false=true-> ∀e∈o.after,Region.binds .any e=true->listed.getD e.on false=true) {j i:Nat} (p:Pre ops j i):listed.getD j false=true->listed.getD i false=true:=by
 induction p with
 | edge h he hb=>exact fun hl=>hc _ _ h hl _ he hb
 | trans h he hb _ ih=>exact fun hl=>ih (hc _ _ h hl _ he hb)
theorem LS {listed:Array Bool} (hc: ∀(j:Nat) (o:Oper),ops[j]? =some o->listed.getD j false=true-> ∀e∈o.after,Region.binds .any e=true->listed.getD e.on false=true) {j i:Nat} (hr: ∀o,ops[j]? =some o-> ∀e∈o.after,Region.binds .any e=true->listed.getD e.on false=true) (p:Pre ops j i):listed.getD i false=true:=by
 cases p with
 | edge h he hb=>exact hr _ h _ he hb
 | trans h he hb q=>exact zx hc q (hr _ h _ he hb)
theorem gp {listed:Array Bool} {j i:Nat}:(listed.setIfInBounds j true).getD i false=true↔listed.getD i false=true\/(i=j/\j < listed.size):=by
 rw [Array.getD_eq_getD_getElem?,Array.getElem?_setIfInBounds,Array.getD_eq_getD_getElem?]
 by_cases e:j=i
 ·subst e
  by_cases hl:j < listed.size
  ·simp [hl]
  ·simp [hl]
 ·simp [e,Ne.symm e]
theorem XS {listed:Array Bool} {ini fin:List PV} {j:Nat} {o:Oper} (ho:ops[j]? =some o) {t:Nat} (ht:o.dst≠some t):cur ops ini fin (listed.setIfInBounds j true) t=cur ops ini fin listed t:=by
 unfold cur
 congr 1
 apply propext
 constructor
 ·rintro ⟨i,oi,h1,h2,h3⟩
  rcases gp.1 h3 with h4 | ⟨rfl,_⟩
  ·exact ⟨i,oi,h1,h2,h4⟩
  ·rw [ho] at h1;cases h1;exact absurd h2 ht
 ·rintro ⟨i,oi,h1,h2,h3⟩
  exact ⟨i,oi,h1,h2,gp.2 (.inl h3)⟩
theorem WM (T:Trc P Γ C ops ord nF nA S sts ps gs) (D:DCtx Γ ops ord nF nA) {listed:Array Bool} (hc: ∀(j:Nat) (o:Oper),ops[j]? =some o->listed.getD j false=true-> ∀e∈o.after,Region.binds .any e=true->listed.getD e.on false=true)
  {k j:Nat} {o:Oper} (hk:ord[k]? =some j) (ho:ops[j]? =some o) (hun:listed.getD j false=false) (hr: ∀e∈o.after,Region.binds .any e=true->listed.getD e.on false=true) {t:Nat} (ht:t∈o.looksAt ops):
  (sts k).fr.getD t .undef=cur ops (sts 0).fr (sts ord.length).fr listed t:=by
 have hkl:k < ord.length:=(List.getElem?_eq_some_iff.1 hk).1
 by_cases hw: ∃(i:Nat) (oi:Oper),ops[i]? =some oi/\oi.dst=some t
 ·obtain ⟨i,oi,hi,hd⟩:=hw
  obtain ⟨ki,hki⟩:=D.all i (Array.getElem?_eq_some_iff.1 hi).1
  have uniq: ∀{i':Nat} {oi':Oper},ops[i']? =some oi'->oi'.dst=some t->i'=i:=fun h1 h2=>D.dst _ _ _ _ t h1 hi h2 hd
  have early:k<=ki->(sts k).fr.getD t .undef=(sts 0).fr.getD t .undef:=fun hle=>T.ini k (by omega) fun k' j' o' h1 h2 h3 h4=>by
   have:=uniq h3 h4;subst this
   have:=D.nd k' ki j' h2 hki;omega
  rcases D.look j o t i oi ho ht hi hd with h1 | h1 | h1
  ·subst h1
   have:=D.nd k ki i hk hki
   rw [early (by omega),B3 fun i' oi' h1 h2 h3=>by have:=uniq h1 h2;subst this;rw [hun] at h3;cases h3]
  ·have hli:=LS hc (fun o' ho'=>by rw [ho] at ho';cases ho';exact hr) h1
   obtain ⟨k1,hk1,hk2⟩:=h1.pos D k hk
   have:=D.nd k1 ki i hk2 hki
   rw [Mz hi hd hli]
   exact (T.fin (ord.length - k) k (by omega) fun k' j' o' h1 h2 h3 h4=>by
    have:=uniq h3 h4;subst this
    have:=D.nd k' ki j' h2 hki;omega).symm
  ·obtain ⟨k1,hk1,hk2⟩:=h1.pos D ki hki
   have:=D.nd k1 k j hk2 hk
   rw [early (by omega),B3 fun i' oi' h2 h3 h4=>by
    have:=uniq h2 h3;subst this
    have:=zx hc h1 h4
    rw [hun] at this;cases this]
 ·rw [B3 fun i oi h1 h2 _=>hw ⟨i,oi,h1,h2⟩]
  exact T.ini k (by omega) fun k' j' o' h1 h2 h3 h4=>hw ⟨j',o',h3,h4⟩
theorem Ur (T:Trc P Γ C ops ord nF nA S sts ps gs) (D:DCtx Γ ops ord nF nA) {k j:Nat} {o:Oper} (hk:ord[k]? =some j) (ho:ops[j]? =some o) {t:Nat} (ht:o.dst=some t) (hl:t < (sts 0).fr.length):(sts ord.length).fr.getD t .undef=ps k:=by
 have hkl:k < ord.length:=(List.getElem?_eq_some_iff.1 hk).1
 rw [T.fin (ord.length - (k+1)) (k+1) (by omega) fun k' j' o' h1 h2 h3 h4=>by
  have:=D.dst _ _ _ _ t h3 ho h4 ht;subst this
  have:=D.nd k' k j' h2 hk;omega]
 obtain ⟨o',h1,_,_,_,h5,_⟩:=T.step k j hk
 rw [ho] at h1;cases h1
 rw [h5,ht]
 exact UR (by rw [T.len k (by omega)];exact hl)
def mask (l:List Nat) (fr:List PV):List PV:=(List.range fr.length).map fun t=>if t∈l then fr.getD t .undef else .undef
theorem U2 {l:List Nat} {fr:List PV} {t:Nat} (ht:t∈l):(mask l fr).getD t .undef=fr.getD t .undef:=by
 unfold mask
 simp only [List.getD_eq_getElem?_getD,List.getElem?_map]
 by_cases hl:t < fr.length
 ·simp [hl,ht]
 ·simp [Nat.le_of_not_lt hl]
theorem N5 {o:Oper} {fr:List PV}: ∀x∈o.op.operands,ev fr x=ev (mask (o.looksAt ops) fr) x:=by
 intro x hx
 cases x with
 | tmp t=>
   have:t∈o.looksAt ops:=List.mem_append_left _ (List.mem_filterMap.2 ⟨.tmp t,by simpa using hx,rfl⟩)
   exact (U2 this).symm
 | _=>rfl
theorem V2 {o:Oper} {fr:List PV}:Tf o (mask (o.looksAt ops) fr)=Tf o fr:=by
 unfold Tf
 split
 ·rename_i c hop
  split
  ·rename_i hc
   split
   ·rename_i x l hl
    have hx:x∈o.op.operands:=by
     rw [hop]
     simp only [Op.operands,Call.operands]
     have:x∈c.args:=by have h2:x∈c.args.toList:=by rw [hl];simp
                       simpa using h2
     simp [this]
    rw [<-N5 (ops:=ops) (o:=o) x hx]
   ·rfl
  ·rfl
 ·rfl
theorem XM {w:World} {ok:Nat->Prop} {mu:Mu} {l:List Nat} {fr:List PV} {tmps:Array Value} (hsz:fr.length=tmps.size) (h: ∀(t:Nat) (v:Value),t∈l->tmps[t]? =some v->RP w ok mu (fr.getD t .undef) v):Fr w ok mu (mask l fr) tmps:=by
 refine ⟨by simp [mask,hsz],fun t p v h1 h2=> ?_⟩
 unfold mask at h1
 rw [List.getElem?_map] at h1
 cases h3:(List.range fr.length)[t]? with
 | none=>rw [h3] at h1;cases h1
 | some u=>
   rw [h3] at h1
   have hu:t=u:=by
    rcases Nat.lt_or_ge t fr.length with h4 | h4
    ·rw [List.getElem?_range h4] at h3;exact Option.some.inj h3
    ·rw [List.getElem?_eq_none (by simpa using h4)] at h3;cases h3
   subst hu
   simp only [Option.map_some,Option.some.injEq] at h1
   subst h1
   split
   ·exact h t v ‹_› h2
   ·exact .undef v
theorem O6 {o:Oper} {fr:List PV} {p:PV} (h:YE P Γ C o fr=some p):YE P Γ C o (mask (o.looksAt ops) fr)=some p:=by
 have: ∀x∈o.op.operands,ev (A3 fr) x=ev (A3 (mask (o.looksAt ops) fr)) x:=by
  have key: ∀(l:List PV) (t:Nat),(A3 l).getD t .undef=(match l.getD t .undef with | .imm x=> .imm x | _=> .undef):=by
   intro l t
   unfold A3
   simp only [List.getD_eq_getElem?_getD,List.getElem?_map]
   cases l[t]? <;>rfl
  intro x hx
  have h1:=N5 (ops:=ops) (fr:=fr) x hx
  cases x with
  | tmp t=>simp only [ev] at h1 ⊢;rw [key,key,h1]
  | _=>rfl
 have h2:=DU (P:=P) (Γ:=Γ) (C:=C) (h:=[]) this
 unfold YE at h ⊢
 unfold b5 at h2
 rw [<-h2]
 exact h
theorem Uu (hΓ:ak P Γ) (hC:COK P C) (T:Trc P Γ C ops ord nF nA S sts ps gs) (hS:S.2=true-> ∀q∈S.1,isRw (getOb (sts nF).h q)=false) (D:DCtx Γ ops ord nF nA) {Q:Exit->Act->World->Prop} {listed:Array Bool} {a:Act} {w:World} (I:DInv P ops ord nA sts w0 ok0 wS okS muS aS listed a w) {j:Nat} (hj:j∈Region.ready .any ops listed):
  wpOp P ops Q j (DInv P ops ord nA sts w0 ok0 wS okS muS aS (listed.setIfInBounds j true)) a w:=by
 obtain ⟨hun0,o,ho,hr⟩:=mem_ready.1 hj
 have hjl:j < ops.size:=(Array.getElem?_eq_some_iff.1 ho).1
 have hun:listed.getD j false=false:=by
  rw [Array.getD_eq_getD_getElem?,Array.getElem?_eq_getElem (by rw [I.size];exact hjl)] at hun0 ⊢
  exact hun0
 obtain ⟨k,hk⟩:=D.all j hjl
 have hkl:k < ord.length:=(List.getElem?_eq_some_iff.1 hk).1
 have hAl:=D.len
 obtain ⟨o',ho',hg,hst,hsk,hfr,hokat⟩:=T.step k j hk
 rw [ho] at ho';cases ho'
 obtain ⟨ok,mu,m,hm1,hm2,hB,hinv,hfresh,hnew,hcur,hlater⟩:=I.ex
 have hlook: ∀(t:Nat) (v:Value),t∈o.looksAt ops->a.tmps[t]? =some v->RP w ok mu ((sts k).fr.getD t .undef) v:=fun t v ht hv=>by
  rw [WM T D I.closed hk ho hun hr ht];exact hcur t v hv
 have hszk:(sts k).fr.length=a.tmps.size:=by rw [T.len k (by omega),I.tsize]
 have hwant:=Cj (a:=a) (w:=w) (ok:=ok) (mu:=mu) hg (fun s v hs hv=>hlook s v (List.mem_append_right _ (by
  unfold Option.bind at hs
  cases hgd:o.guard with
  | none=>rw [hgd] at hs;cases hs
  | some gw=>rw [hgd] at hs;simp only [Option.mem_toList];exact hs)) hv) hszk
 have keep: ∀(v:Value) (w':World) (ok':Nat->Prop) (mu':Mu) (m':Nat),nA<=m'->m'<=ord.length->(∀(k' j':Nat),nA<=k'->ord[k']? =some j'->((listed.setIfInBounds j true).getD j' false=true↔k' < m'))->Inv w0 ok0 w' ok' mu' (sts m').h->(∀q,(sts m').h.length<=q->mu' q=none)->
   (m'=nA-> ∀q,mu' q≠none->q < (sts 0).h.length\/ ∃k' j':Nat,k' < nA/\ord[k']? =some j'/\(listed.setIfInBounds j true).getD j' false=true/\(sts k').h.length=q/\(sts (k'+1)).h.length=q+1)->
   Later w ok mu w' ok' mu'->RP w' ok' mu' (ps k) v->DInv P ops ord nA sts w0 ok0 wS okS muS aS (listed.setIfInBounds j true) (a.put o.dst v) w':=by
  intro v w' ok' mu' m' c1 c2 c3 c4 c5 c6 c7 c8
  refine ⟨by simp [I.size],fun i oi hi hl e he hb=> ?_,?_,by rw [nt,I.defers],fun t ht=> ?_,ok',mu',m',c1,c2,c3,c4,c5,c6,fun t u hu=> ?_,hlater.trans c7⟩
  ·rcases gp.1 hl with h1 | ⟨rfl,_⟩
   ·exact gp.2 (.inl (I.closed i oi hi h1 e he hb))
   ·rw [ho] at hi;cases hi
    exact gp.2 (.inl (hr e he hb))
  ·rw [<-I.tsize];cases o.dst<;>simp [Act.put]
  ·rw [BR fun e=>ht (List.mem_filterMap.2 ⟨o,by simpa using Array.mem_of_getElem? ho,e⟩),I.same t ht]
  ·by_cases hd:o.dst=some t
   ·have htl:t < a.tmps.size:=by
     have:=(Array.getElem?_eq_some_iff.1 hu).1
     rw [hd] at this
     simpa [Act.put] using this
    have huv:u=v:=by
     rw [hd] at hu
     simp [Act.put,Array.getElem?_setIfInBounds,htl] at hu
     exact hu.symm
    subst huv
    rw [Mz ho hd (gp.2 (.inr ⟨rfl,by rw [I.size];exact hjl⟩)),Ur T D hk ho hd (by rw [<-I.tsize];exact htl)]
    exact c8
   ·rw [BR hd] at hu
    rw [XS ho hd]
    exact (hcur t u hu).later c7
 have hBset: ∀m',(∀(k' j':Nat),nA<=k'->ord[k']? =some j'->k'≠k->(k' < m'↔k' < m))->(nA<=k->k < m')-> ∀(k' j':Nat),nA<=k'->ord[k']? =some j'->((listed.setIfInBounds j true).getD j' false=true↔k' < m'):=by
  intro m' h1 h2 k' j' hk' hj'
  rw [gp]
  by_cases e:k'=k
  ·subst e
   rw [hk] at hj';cases hj'
   exact ⟨fun _=>h2 hk',fun _=> .inr ⟨rfl,by rw [I.size];exact hjl⟩⟩
  ·rw [h1 k' j' hk' hj' e,<-hB k' j' hk' hj']
   constructor
   ·rintro (h | ⟨rfl,_⟩)
    ·exact h
    ·exact absurd (D.nd k' k j' hj' hk) e
   ·exact .inl
 have hnew':(m=nA-> ∀q,mu q≠none->q < (sts 0).h.length\/ ∃k' j':Nat,k' < nA/\ord[k']? =some j'/\(listed.setIfInBounds j true).getD j' false=true/\(sts k').h.length=q/\(sts (k'+1)).h.length=q+1):=fun hm q hq=>by
  rcases hnew hm q hq with h1 | ⟨k',j',h1,h2,h3,h4,h5⟩
  ·exact .inl h1
  ·exact .inr ⟨k',j',h1,h2,gp.2 (.inl h3),h4,h5⟩
 have hwaits: ∀b jb,nA<=b->ord[b]? =some jb->(listed.getD jb false=true\/jb=j)-> ∀k' i,(k' < nF\/nA<=k')->k' < b->ord[k']? =some i->listed.getD i false=true:=by
  intro b jb hb1 hb2 hb3 k' i h1 h2 h3
  have hp:=D.wait b jb hb1 hb2 k' i h1 h2 h3
  rcases hb3 with h4 | rfl
  ·exact zx I.closed hp h4
  ·exact LS I.closed (fun o' ho'=>by rw [ho] at ho';cases ho';exact hr) hp
 have hmid:nA<=k->k=m:=fun hle=>by
  rcases Nat.lt_trichotomy k m with h1 | h1 | h1
  ·have:=(hB k j hle hk).2 h1
   rw [hun] at this;cases this
  ·exact h1
  ·obtain ⟨jm,hjm⟩:=T.at (k:=m) (by omega)
   have:=hwaits k j hle hk (.inr rfl) m jm (.inr hm1) h1 hjm
   have:=(hB m jm hm1 hjm).1 this
   omega
 unfold wpOp
 rw [ho]
 simp only [hwant]
 cases hgk:gs k with
 | false=>
   obtain ⟨hp,hh⟩:=hsk hgk
   simp only [Bool.false_eq_true,if_false]
   rcases Nat.lt_or_ge k nA with hlt | hge
   ·exact keep undef w ok mu m hm1 hm2 (hBset m (fun _ _ _ _ _=> .rfl) (fun h=>by omega)) hinv hfresh hnew' (.refl _ _ _) (by rw [hp];exact .skip)
   ·have hkm:=hmid hge
    subst hkm
    exact keep undef w ok mu (k+1) (by omega) (by omega) (hBset (k+1) (fun k' _ _ _ h=>by omega) (fun _=>by omega)) (by rw [hh];exact hinv) (by rw [hh];exact hfresh) (fun h=>by omega) (.refl _ _ _) (by rw [hp];exact .skip)
 | true=>
   simp only [if_true]
   left
   have hsX:=hst hgk
   have hmaskFr:Fr w ok mu (mask (o.looksAt ops) (sts k).fr) a.tmps:=XM hszk hlook
   have hs': ∀H,b5 P Γ C o ⟨mask (o.looksAt ops) (sts k).fr,H⟩=b5 P Γ C o ⟨(sts k).fr,H⟩:=fun H=>(DU N5).symm
   rcases Nat.lt_or_ge k nA with hlt | hge
   ·have hq:=T.quiet D hlt hk ho
    have hlenk:(sts k).h.length<=(sts (k+1)).h.length:=(T.mono 1 k (by omega)).len
    have hqm:bN Γ o=true\/(R4 o=true/\Tf o (mask (o.looksAt ops) (sts k).fr)=true):=hq.imp id fun h=>⟨h.1,by rw [V2];exact h.2⟩
    by_cases hm:m=nA
    ·subst hm
     have hsub:=T.sub D (m - k) k (by omega)
     have hsub1:=T.sub D (m - (k+1)) (k+1) (by omega)
     rw [show k+(m - k)=m by omega] at hsub
     rw [show k+1+(m - (k+1))=m by omega] at hsub1
     have iq:InvQ w ok mu (sts k).h:=by
      refine ⟨hinv.okw,fun q pl hq=> ?_,fun q pl b base h1 h2=>(hinv.own q pl b base h1 h2).2.1⟩
      rcases Nat.lt_or_ge q (sts k).h.length with h1 | h1
      ·exact (hsub.same q h1).okL (hinv.ob q pl hq)
      ·have:getOb (sts k).h q= .dead:=by unfold getOb;rw [List.getD_eq_getElem?_getD,List.getElem?_eq_none h1];rfl
       rw [this];trivial
     have hnone:(sts (k+1)).h.length≠(sts k).h.length->mu (sts k).h.length=none:=fun hne=>by
      cases hmu:mu (sts k).h.length with
      | none=>rfl
      | some pl=>
        rcases hnew rfl _ (by rw [hmu];simp) with h1 | ⟨k',j',h1,h2,h3,h4,h5⟩
        ·have:=(T.mono k 0 (by omega)).len
         rw [Nat.zero_add] at this
         omega
        ·have hne':k'≠k:=fun e=>by
          subst e
          rw [hk] at h2;cases h2
          rw [hun] at h3;cases h3
         rcases Nat.lt_or_gt_of_ne hne' with h6 | h6
         ·have:=(T.mono (k - (k'+1)) (k'+1) (by omega)).len
          rw [show k'+1+(k - (k'+1))=k by omega] at this
          omega
         ·have:=(T.mono (k' - (k+1)) (k+1) (by omega)).len
          rw [show k+1+(k' - (k+1))=k' by omega] at this
          omega
     have hqr:aq P o a w ok mu (sts k).h (ps k) (sts (k+1)).h:=by
      by_cases hal:nF<=k/\k < m/\allocB o=true
      ·obtain ⟨hb,hh⟩:=Bh hal hsX
       rw [hh]
       exact Yz hΓ hC hal.2.2 (O6 hb) hmaskFr iq
      ·rw [sV hal] at hsX
       exact Yi (st:=⟨mask (o.looksAt ops) (sts k).fr,(sts k).h⟩) hΓ hC (by rw [hs'];exact hsX) hqm hmaskFr iq hnone
     obtain ⟨news,fz,h1,hfz,hh,hdoes⟩:=hqr
     have hl1:=(dx hfz).len
     refine hdoes _ _ fun v w' hgrow=> ?_
     obtain ⟨ok',mu',g⟩:=hgrow
     have hnn:news≠[]->mu (sts k).h.length=none:=fun hne=>hnone (by
      rw [hh,List.length_append,hl1]
      have:0 < news.length:=List.length_pos_iff.2 hne
      omega)
     have hlat:=g.later' hinv.okw hnn
     have hsubNew:SubH h1 (sts m).h:=by
      have:SubH h1 (h1++news):= .append _ _
      rw [<-hh] at this
      exact this.trans hsub1
     have hinv':=hinv.growAt hnn g (fun q hq=>by
      have hf1:=(dx hfz).mem q hq
      have hlt1:q < h1.length:=iT (by cases hx:getOb h1 q<;>rw [hx] at hf1<;>first | rfl | cases hf1)
      exact (hsubNew.same q hlt1).fz hf1) (fun ob hob=>by
      subst hob
      have h9:(sts k).h.length < (sts (k+1)).h.length:=by rw [hh,List.length_append,hl1];simp
      have h10:getOb (sts (k+1)).h (sts k).h.length=ob:=by
       rw [hh,an,if_neg (by omega),hl1,Nat.sub_self];rfl
      have:=hsub1.same (sts k).h.length h9
      rw [h10] at this
      exact this)
     refine keep v w' ok' mu' m (by omega) (by omega) (hBset m (fun _ _ _ _ _=> .rfl) (fun h=>by omega)) hinv' (fun q hq=> ?_) (fun _ q hq=> ?_) hlat g.rp
     ·by_cases e:q=(sts k).h.length
      ·rcases g.obs with ⟨_,e1⟩ | ⟨ob,pl,e1,_⟩
       ·rw [e,e1,<-e];exact hfresh q hq
       ·exfalso
        have h9:(sts k).h.length < (sts (k+1)).h.length:=by rw [hh,e1,List.length_append,hl1];simp
        have:=hsub1.len
        omega
      ·rw [g.same q e];exact hfresh q hq
     ·by_cases e:q=(sts k).h.length
      ·rcases g.obs with ⟨_,e1⟩ | ⟨ob,pl,e1,_⟩
       ·rw [e,e1,<-e] at hq
        exact hnew' rfl q hq
       ·exact .inr ⟨k,j,hlt,hk,gp.2 (.inr ⟨rfl,by rw [I.size];exact hjl⟩),e.symm,by rw [hh,e1,List.length_append,hl1,e];rfl⟩
      ·rw [g.same q e] at hq
       exact hnew' rfl q hq
    ·have hmA:nA < m:=by omega
     obtain ⟨jA,hjA⟩:=T.at (k:=nA) (by omega)
     have hlA:=(hB nA jA (Nat.le_refl _) hjA).2 hmA
     have hkF:nF<=k:=by
      rcases Nat.lt_or_ge k nF with h1 | h1
      ·have:=hwaits nA jA (Nat.le_refl _) hjA (.inl hlA) k j (.inl h1) hlt hk
       rw [hun] at this;cases this
      ·exact h1
     have hfl:=D.fl k j o hkF hlt hk ho
     have hhA:(sts nA).h=(sts k).h:=by
      have e2:=T.sameFs D (nA - k) k hkF (by omega)
      rwa [show k+(nA - k)=nA by omega] at e2
     have hhF:(sts nA).h=(sts nF).h:=by
      have e2:=T.sameFs D (nA - nF) nF (Nat.le_refl _) (by omega)
      rwa [show nF+(nA - nF)=nA by omega] at e2
     have hkeep: ∀q∈S.1,q < (sts k).h.length->getOb (sts m).h q=getOb (sts k).h q:=fun q hq hql=>by
      have e1:=T.prot D hq (fun h2=>by rw [hhF];exact hS h2 q hq) (by rw [hhA];exact hql) (fun d hd=>(T.mono d nA hd).len) (m - nA) (by omega)
      rw [show nA+(m - nA)=m by omega] at e1
      have e2:=T.sameFs D (nA - k) k hkF (by omega)
      rw [show k+(nA - k)=nA by omega] at e2
      rw [e1,e2]
     by_cases hal:nF<=k/\k < nA/\allocB o=true
     ·obtain ⟨hb,hh⟩:=Bh hal hsX
      have hqr:=(Yz hΓ hC hal.2.2 (O6 hb) hmaskFr hinv.q).m hinv hfresh
      refine hqr _ _ fun v w' hr'=> ?_
      obtain ⟨ok',mu',g1,g2,g3,g4⟩:=hr'
      exact keep v w' ok' mu' m hm1 hm2 (hBset m (fun _ _ _ _ _=> .rfl) (fun h=>by omega)) g2 g4 (fun h=>absurd h hm) g1 g3
     have hal': ¬allocB o=true:=fun h=>hal ⟨hkF,hlt,h⟩
     have hfl:=hfl.resolve_right hal'
     have hokf:=T.Cn hkF hlt hal' hk ho
     have hs:=hsX
     rw [sV hal] at hs
     have hqB:bN Γ o=true:=hfl.elim DL GP
     obtain ⟨hh,hsH⟩:(sts (k+1)).h=(sts k).h/\b5 P Γ C o ⟨(sts k).fr,(sts m).h⟩=some (ps k,(sts m).h):=by
      exact Ui hfl hokf (show b5 P Γ C o ⟨(sts k).fr,(sts k).h⟩=_ from hs) (sts m).h hkeep
     have hqr:=(Oj (st:=⟨mask (o.looksAt ops) (sts k).fr,(sts m).h⟩) hΓ hC (by rw [hs'];exact hsH) hqB hmaskFr hinv.q (fun h=>absurd rfl h)).m hinv hfresh
     refine hqr _ _ fun v w' hr'=> ?_
     obtain ⟨ok',mu',g1,g2,g3,g4⟩:=hr'
     exact keep v w' ok' mu' m hm1 hm2 (hBset m (fun _ _ _ _ _=> .rfl) (fun h=>by omega)) g2 g4 (fun h=>absurd h hm) g1 g3
   ·have hkm:=hmid hge
    subst hkm
    have hs:=hsX
    rw [sV (fun h=>by omega)] at hs
    have hmr:=SQ (st:=⟨mask (o.looksAt ops) (sts k).fr,(sts k).h⟩) (w0:=w0) (ok0:=ok0) hΓ hC (by rw [hs'];exact hs) hmaskFr hinv hfresh
    refine hmr _ _ fun v w' hr'=> ?_
    obtain ⟨ok',mu',g1,g2,g3,g4⟩:=hr'
    exact keep v w' ok' mu' (k+1) (by omega) (by omega) (hBset (k+1) (fun k' _ _ _ h=>by omega) (fun _=>by omega)) g2 g4 (fun h=>by omega) g1 g3
end
end Go.AM
namespace Go.AM
open Go.RowKit
section
variable {P:Program} {Γ:FuncId->Option FSig} {C:IV->List Nat->List (List IV)->Option (List IV)} {ops:Array Oper} {ord:List Nat} {nF nA:Nat} {S:List Nat×Bool} {sts:Nat->St} {ps:Nat->PV} {gs:Nat->Bool}
 {w0:World} {ok0:O0} {wS:World} {okS:Nat->Prop} {muS:Mu} {aS:Act} {R:Type}
theorem Ma (T:Trc P Γ C ops ord nF nA S sts ps gs) (D:DCtx Γ ops ord nF nA) {listed:Array Bool} {a:Act} {w:World} (I:DInv P ops ord nA sts w0 ok0 wS okS muS aS listed a w) (hsz:aS.tmps.size=(sts 0).fr.length) (hr:Region.ready .any ops listed=[]):
  ∃ok mu,Cfg w0 ok0 w ok mu (sts ord.length) a/\Step wS okS muS (sts 0).h aS w ok mu (sts ord.length).h a (dsts ops.toList):=by
 have hall: ∀k,∀k' j:Nat,k' < k->ord[k']? =some j->listed.getD j false=true:=by
  intro k
  induction k with
  | zero=>intro k' j h;omega
  | succ k ih=>
    intro k' j hk hj
    by_cases e:k'=k
    ·subst e
     obtain ⟨o,ho,_⟩:=T.step k' j hj
     have hjl:j < listed.size:=by rw [I.size];exact (Array.getElem?_eq_some_iff.1 ho).1
     cases hl:listed.getD j false with
     | true=>rfl
     | false=>
       have:j∈Region.ready .any ops listed:=by
        refine mem_ready.2 ⟨?_,o,ho,fun e he hb=> ?_⟩
        ·rw [Array.getD_eq_getD_getElem?,Array.getElem?_eq_getElem hjl] at hl ⊢
         exact hl
        ·obtain ⟨k2,h2,h3⟩:=D.topo k' j o e hj ho he hb
         exact ih k2 _ (by omega) h3
       rw [hr] at this;cases this
    ·exact ih k' j (by omega) hj
 obtain ⟨ok,mu,m,hm1,hm2,hB,hinv,hfresh,_,hcur,hlater⟩:=I.ex
 have hm:m=ord.length:=by
  rcases Nat.lt_or_ge m ord.length with h | h
  ·obtain ⟨j,hj⟩:=T.at h
   have:=(hB m j hm1 hj).1 (hall (m+1) m j (by omega) hj)
   omega
  ·omega
 subst hm
 refine ⟨ok,mu,⟨hinv,hfresh,?_,fun t p v h1 h2=> ?_⟩,hlater,?_,I.defers,I.same,by rw [I.tsize,hsz]⟩
 ·rw [T.len _ (Nat.le_refl _),I.tsize]
 ·have hp:(sts ord.length).fr.getD t .undef=p:=by rw [List.getD_eq_getElem?_getD,h1];rfl
  have h3:=hcur t v h2
  have hc:cur ops (sts 0).fr (sts ord.length).fr listed t=p:=by
   by_cases hw: ∃(i:Nat) (oi:Oper),ops[i]? =some oi/\oi.dst=some t
   ·obtain ⟨i,oi,hi,hd⟩:=hw
    obtain ⟨ki,hki⟩:=D.all i (Array.getElem?_eq_some_iff.1 hi).1
    rw [Mz hi hd (hall (ki+1) ki i (by omega) hki),hp]
   ·rw [B3 fun i oi h4 h5 _=>hw ⟨i,oi,h4,h5⟩,<-hp]
    exact (T.ini ord.length (Nat.le_refl _) fun k' j' o' _ _ h5 h6=>hw ⟨j',o',h5,h6⟩).symm
  rw [hc] at h3
  exact h3
 ·have:=T.mono ord.length 0 (by omega)
  rwa [Nat.zero_add] at this
theorem WQ (hΓ:ak P Γ) (hC:COK P C) (T:Trc P Γ C ops ord nF nA S sts ps gs) (hS:S.2=true-> ∀q∈S.1,isRw (getOb (sts nF).h q)=false) (D:DCtx Γ ops ord nF nA) (hsz:aS.tmps.size=(sts 0).fr.length) {Q:Exit->Act->World->Prop}
  (hQ: ∀(a:Act) (w:World) (ok:Nat->Prop) (mu:Mu),Cfg w0 ok0 w ok mu (sts ord.length) a->Step wS okS muS (sts 0).h aS w ok mu (sts ord.length).h a (dsts ops.toList)->Q .normal a w):
  ∀(fuel:Nat) (listed:Array Bool) (a:Act) (w:World),listed.toList.count false=fuel->DInv P ops ord nA sts w0 ok0 wS okS muS aS listed a w->wpAny P .any ops Q fuel listed a w:=by
 intro fuel
 induction fuel with
 | zero=>
   intro listed a w hcnt I
   have hr:Region.ready .any ops listed=[]:=by
    cases h:Region.ready .any ops listed with
    | nil=>rfl
    | cons j l=>
      have hj:j∈Region.ready .any ops listed:=by rw [h];exact List.mem_cons_self
      obtain ⟨h0,o,ho,_⟩:=mem_ready.1 hj
      have hjl:j < listed.size:=by rw [I.size];exact (Array.getElem?_eq_some_iff.1 ho).1
      rw [Array.getD_eq_getD_getElem?,Array.getElem?_eq_getElem hjl] at h0
      simp only [Option.getD_some] at h0
      have:false∈listed.toList:=by rw [<-h0];exact (Array.mem_toList_iff).2 (Array.getElem_mem hjl)
      have:=List.count_pos_iff.2 this
      omega
   obtain ⟨ok,mu,h1,h2⟩:=Ma T D I hsz hr
   exact ⟨hr,hQ a w ok mu h1 h2⟩
 | succ fuel ih=>
   intro listed a w hcnt I
   refine ⟨fun hr=> ?_,fun j hj=> ?_⟩
   ·obtain ⟨ok,mu,h1,h2⟩:=Ma T D I hsz hr
    exact hQ a w ok mu h1 h2
   ·refine wpOp_mono (fun a' w' h=>ih _ a' w' ?_ h) (Uu hΓ hC T hS D I hj)
    obtain ⟨h0,o,ho,_⟩:=mem_ready.1 hj
    have hjl:j < listed.size:=by rw [I.size];exact (Array.getElem?_eq_some_iff.1 ho).1
    rw [Array.getD_eq_getD_getElem?,Array.getElem?_eq_getElem hjl] at h0
    simp only [Option.getD_some] at h0
    have hl:j < listed.toList.length:=by simpa using hjl
    have h1:(listed.setIfInBounds j true).toList=listed.toList.set j true:=by simp
    rw [h1,List.count_set hl]
    have:listed.toList[j]=false:=by simpa using h0
    rw [this,hcnt]
    simp
theorem R6 (hΓ:ak P Γ) (hC:COK P C) (hm:P.follows .mixedOrders=true) {id:Nat} {F A B:List Nat} (hok:F2 Γ ops F A B=true) {st:St} {k:St->Option R} {r:R} (hs:oh P Γ C (some (F,A,B)) ops st k=some r)
  {a:Act} {w:World} {ok:Nat->Prop} {mu:Mu} (hc:Cfg w0 ok0 w ok mu st a) {Q:Exit->Act->World->Prop}
  (hk: ∀(st':St) (a':Act) (w':World) (ok':Nat->Prop) (mu':Mu),k st'=some r->Cfg w0 ok0 w' ok' mu' st' a'->Step w ok mu st.h a w' ok' mu' st'.h a' (dsts ops.toList)->Q .normal a' w'):(Code.region id ops true).wp P Q a w:=by
 have D:=QO hok
 have hlt: ∀j∈A++(F++B),j < ops.size:=by
  intro j hj
  obtain ⟨k,hk⟩:=List.mem_iff_getElem?.1 hj
  simp only [F2,Bool.and_eq_true] at hok
  have h6:=hok.1.1.2
  have key: ∀(l:List Nat) (s:Nat),LU ops s l=true-> ∀j∈l,j < ops.size:=by
   intro l
   induction l with
   | nil=>intro s _ j hj;cases hj
   | cons i l ih=>
     intro s h j hj
     simp only [LU,Bool.and_eq_true] at h
     rcases List.mem_cons.1 hj with rfl | hj
     ·have h1:=h.1
      split at h1
      ·rename_i ho;exact (Array.getElem?_eq_some_iff.1 ho).1
      ·cases h1
     ·exact ih _ h.2 j hj
  exact key _ _ h6 j hj
 obtain ⟨S,sts,ps,gs,h0,T,hS,hfin⟩:=Hm (l:=B) (F:=F) (fun j hj=>hlt j (List.mem_append_right _ (List.mem_append_right _ hj))) (fun j hj=>hlt j (List.mem_append_right _ (List.mem_append_left _ hj))) A st (fun j hj=>hlt j (List.mem_append_left _ hj)) hs
 subst h0
 obtain ⟨hinv,hl⟩:=hc.inv.drawn (w.drawn+1)
 refine wp_region_any hm (WQ hΓ hC T hS D hc.fr.size.symm (w0:=w0) (ok0:=ok0) (wS:={ w with drawn:=w.drawn+1 }) (okS:=ok) (muS:=mu) (aS:=a) (fun a' w' ok' mu' h1 h2=>hk _ a' w' ok' mu' hfin h1 ⟨hl.trans h2.later,h2.stay,h2.defers,h2.same,h2.size⟩) _ _ a _ (by simp) ?_)
 have hfalse: ∀j,(Array.replicate ops.size false).getD j false=false:=fun j=>by
  rw [Array.getD_eq_getD_getElem?]
  by_cases h:j < ops.size<;>simp [h]
 refine ⟨by simp,fun j o _ h=>(by rw [hfalse] at h;cases h),hc.fr.size.symm,rfl,fun _ _=>rfl,ok,mu,(A++F).length,Nat.le_refl _,D.len,fun k' j' h1 h2=>⟨fun h=>(by rw [hfalse] at h;cases h),fun h=>by omega⟩,?_,fun q hq=> ?_,fun _ q hq=> ?_,fun t v hv=> ?_,.refl _ _ _⟩
 ·have hsub:=T.sub D (A++F).length 0 (by omega)
  rw [Nat.zero_add] at hsub
  exact hinv.subH hc.fresh hsub
 ·have:=(T.mono (A++F).length 0 (by have:=D.len;omega)).len
  rw [Nat.zero_add] at this
  exact hc.fresh q (by omega)
 ·left
  rcases Nat.lt_or_ge q (sts 0).h.length with h | h
  ·exact h
  ·exact absurd (hc.fresh q h) hq
 ·rw [B3 fun i oi _ _ h=>by rw [hfalse] at h;cases h]
  exact (hc.fr.at hv).later hl
theorem Tk (hΓ:ak P Γ) (hC:COK P C) {id:Nat} {st:St} {k:St->Option R} {r:R} (hs:oh P Γ C none ops st k=some r)
  {a:Act} {w:World} {ok:Nat->Prop} {mu:Mu} (hc:Cfg w0 ok0 w ok mu st a) {Q:Exit->Act->World->Prop}
  (hk: ∀(st':St) (a':Act) (w':World) (ok':Nat->Prop) (mu':Mu),k st'=some r->Cfg w0 ok0 w' ok' mu' st' a'->Step w ok mu st.h a w' ok' mu' st'.h a' (dsts ops.toList)->Q .normal a' w'):(Code.region id ops false).wp P Q a w:=
 wp_region_list (CG hΓ hC ops.toList st a w ok mu hs hc hk)
end
end Go.AM
namespace Go.AM
open Go.RowKit
theorem RP.restrict {w w':World} {ok ok':Nat->Prop} {mu mu' mu2:Mu} {p:PV} {v:Value} (r:RP w ok mu p v) (hm: ∀o,mu o≠none->mu2 o=mu' o): ∀{v':Value},RP w' ok' mu' p v'->RP w' ok' mu2 p v':=by
 induction r with
 | undef v=>exact fun {v'} r=>by cases r;exact .undef _
 | skip=>exact fun {v'} r=>by cases r;exact .skip
 | imm h=>exact fun {v'} r=>by cases r with | imm h=>exact .imm h
 | nils=>exact fun {v'} r=>by cases r;exact .nils _
 | agg cs vs hlen hrel ih=>
   intro v' r
   cases r with
   | agg _ vs' hlen' hrel'=>
     refine .agg _ _ hlen' fun i p v h1 h2=> ?_
     have hi:i < vs.size:=by rw [<-hlen];exact (List.getElem?_eq_some_iff.1 h1).1
     exact ih i p vs[i] h1 (Array.getElem?_eq_getElem hi) (hrel' i p v h1 h2)
 | tup cs vs hlen hrel ih=>
   intro v' r
   cases r with
   | tup _ vs' hlen' hrel'=>
     refine .tup _ _ hlen' fun i p v h1 h2=> ?_
     have hi:i < vs.size:=by rw [<-hlen];exact (List.getElem?_eq_some_iff.1 h1).1
     exact ih i p vs[i] h1 (Array.getElem?_eq_getElem hi) (hrel' i p v h1 h2)
 | buf o n a cap pl h1 h2 h3 h4=>exact fun {v'} r=>by cases r with | buf _ _ a' cap' pl' g1 g2 g3 g4=>exact .buf o n a' cap' pl' (by rw [hm o (by rw [h1];simp)];exact g1) g2 g3 g4
 | sub o l u a cap pl h1 h2 h3 h4 h5=>exact fun {v'} r=>by cases r with | sub _ _ _ a' cap' pl' g1 g2 g3 g4 g5=>exact .sub o l u a' cap' pl' (by rw [hm o (by rw [h1];simp)];exact g1) g2 g3 g4 g5
 | ptr o j pl b base h1 h2=>exact fun {v'} r=>by cases r with | ptr _ _ pl' b' base' g1 g2=>exact .ptr o j pl' b' base' (by rw [hm o (by rw [h1];simp)];exact g1) g2
 | bptr o i j pl b base h1 h2=>exact fun {v'} r=>by cases r with | bptr _ _ _ pl' b' base' g1 g2=>exact .bptr o i j pl' b' base' (by rw [hm o (by rw [h1];simp)];exact g1) g2
 | eptr es e i j b off vals h1 h2 h3 h4=>exact fun {v'} r=>by cases r with | eptr _ e' _ _ b' off' vals' g1 g2 g3 g4=>exact .eptr es e' i j b' off' vals' g1 g2 g3 g4
 | iptr cs j0 j b off vals h1 h2 h3=>exact fun {v'} r=>by cases r with | iptr _ _ _ b' off' vals' g1 g2 g3=>exact .iptr cs j0 j b' off' vals' g1 g2 g3
 | mp o pl b h1 h2 h3=>exact fun {v'} r=>by cases r with | mp _ pl' b' g1 g2 g3=>exact .mp o pl' b' (by rw [hm o (by rw [h1];simp)];exact g1) g2 g3
 | sn T n o pl v h1 h2=>exact fun {v'} r=>by cases r with | sn _ _ _ pl' _ g1 g2=>exact .sn T n o pl' _ (by rw [hm o (by rw [h1];simp)];exact g1) g2
 | tnil=>exact fun {v'} r=>by cases r;exact .tnil
 | tbuf T o n pl v h1 h2 h3=>exact fun {v'} r=>by cases r with | tbuf _ _ _ pl' _ g1 g2 g3=>exact .tbuf T o n pl' _ (by rw [hm o (by rw [h1];simp)];exact g1) g2 g3
 | clo fn caps cv hlen hrel ih=>
   intro v' r
   cases r with
   | clo _ _ cv' hlen' hrel'=>
     refine .clo fn caps cv' hlen' fun i p v h1 h2=> ?_
     have hi:i < cv.size:=by rw [<-hlen];exact (List.getElem?_eq_some_iff.1 h1).1
     exact ih i p cv[i] h1 (Array.getElem?_eq_getElem hi) (hrel' i p v h1 h2)
def BD (x y:Ob):Prop:=x.fz=y.fz/\((∃m m' cs,x= .box m cs/\y= .box m' cs)\/ ∃m m' s z,x= .arr m s z/\y= .arr m' s z)
theorem BD.live {x y:Ob} (h:BD x y):y.live=true:=by
 obtain ⟨_,⟨m,m',cs,_,rfl⟩ | ⟨m,m',s,z,_,rfl⟩⟩:=h<;>rfl
theorem kY {x:Ob} (h:x.live=true):BD (ef x) x:=by
 cases x with
 | dead=>cases h
 | box m cs=>cases m<;>exact ⟨rfl,.inl ⟨_,_,_,rfl,rfl⟩⟩
 | arr m s z=>cases m<;>exact ⟨rfl,.inr ⟨_,_,_,_,rfl,rfl⟩⟩
theorem BD.symm {x y:Ob} (h:BD x y):BD y x:=by
 obtain ⟨h1,⟨m,m',cs,h2,h3⟩ | ⟨m,m',s,z,h2,h3⟩⟩:=h
 ·exact ⟨h1.symm,.inl ⟨_,_,_,h3,h2⟩⟩
 ·exact ⟨h1.symm,.inr ⟨_,_,_,_,h3,h2⟩⟩
theorem iE (x:Ob):(ef x).live=x.live:=by
 cases x with
 | dead=>rfl
 | box m cs=>cases m<;>rfl
 | arr m s z=>cases m<;>rfl
theorem xy (x:Ob):isRw (ef x)=false:=by
 cases x with
 | dead=>rfl
 | box m cs=>cases m<;>rfl
 | arr m s z=>cases m<;>rfl
theorem iM (h:List Ob) (o:Nat):getOb (h.map ef) o=ef (getOb h o):=by
 unfold getOb
 simp only [List.getD_eq_getElem?_getD,List.getElem?_map]
 cases h[o]? <;>rfl
theorem cN {x:Ob} (h:isRw x=true):x.live=true/\x.fz=false:=by
 cases x with
 | dead=>cases h
 | box m cs=>cases m<;>first | exact ⟨rfl,rfl⟩ | cases h
 | arr m s z=>cases m<;>first | exact ⟨rfl,rfl⟩ | cases h
section
variable {w0:World} {ok0:O0} {w:World} {ok:Nat->Prop} {mu:Mu} {h:List Ob} {a:Act}
theorem Fr.upd {fr:List PV} {tmps:Array Value} (r:Fr w ok mu fr tmps) {t:Nat} {p:PV} (hp: ∀v,tmps[t]? =some v->RP w ok mu p v):Fr w ok mu (fr.set t p) tmps:=by
 refine ⟨by simp [r.size],fun u q x h1 h2=> ?_⟩
 by_cases e:t=u
 ·subst e
  rw [List.getElem?_set] at h1
  simp only [if_true] at h1
  split at h1
  ·cases h1;exact hp x h2
  ·cases h1
 ·rw [List.getElem?_set_ne e] at h1
  exact r.rel u q x h1 h2
theorem Gz {w':World} {ok':Nat->Prop} {mu':Mu} {st':St} {h1:List Ob} {fz:List Nat} {vs:List IV} (c:Cfg w0 ok0 w' ok' mu' st' a) (hf:qK st'.h fz=some h1):
  ∀(ks:List (Option Nat)) (caps:List PV) (cvl:List Value) (xs:List IV) (i:Nat) (H:List Ob) (M:Mu),Gl st'.h ks caps=some xs->caps.length=cvl.length->(∀(j:Nat) (p:PV) (v:Value),caps[j]? =some p->cvl[j]? =some v->RP w' ok' mu' p v)->(∀j,j < xs.length->nth vs (i+j)=nth xs j)->cC (px ks caps)=true->
   (∀o∈px ks caps,isRw (getOb h1 o)=true/\ ∀pl b base o2 pl2 base2,mu' o=some pl->pl.loc=some (b,base)->M o2=some pl2->pl2.loc=some (b,base2)->(getOb H o2).live=false)->Inv w0 ok0 w' (fX ok' mu' fz) M H->(∀q,H.length<=q->M q=none)->
   xs.length=zQ ks/\ ∃M2,Inv w0 ok0 w' (fX ok' mu' fz) M2 (H++lM vs ks i)/\(∀q,(H++lM vs ks i).length<=q->M2 q=none)/\Later w' (fX ok' mu' fz) M w' (fX ok' mu' fz) M2/\(mD vs ks i H.length).length=cvl.length/\(∀(j:Nat) (p:PV) (v:Value),(mD vs ks i H.length)[j]? =some p->cvl[j]? =some v->RP w' (fX ok' mu' fz) M2 p v)/\
     ∀o p,M2 o=some p->(o < H.length/\M o=some p)\/(H.length<=o/\ ∀b base,p.loc=some (b,base)-> ∃k∈px ks caps,∃plq bs,mu' k=some plq/\plq.loc=some (b,bs))
 | [],[],cvl,xs,i,H,M,hx,hl,hr,hv,hnd,htk,iH,fH=>by
   simp only [Gl,Option.some.injEq] at hx
   subst hx
   refine ⟨rfl,M,by simpa [lM] using iH,by simpa [lM] using fH,.refl _ _ _,by simpa [mD] using hl,fun j p v h=>by simp [mD] at h,fun o p ho=> .inl ⟨?_,ho⟩⟩
   rcases Nat.lt_or_ge o H.length with g | g
   ·exact g
   ·rw [fH o g] at ho;cases ho
 | [],_::_,cvl,xs,i,H,M,hx,hl,hr,hv,hnd,htk,iH,fH=>by simp [Gl] at hx
 | _::_,[],cvl,xs,i,H,M,hx,hl,hr,hv,hnd,htk,iH,fH=>by simp [Gl] at hx
 | k::ks,p::caps,cvl,xs,i,H,M,hx,hl,hr,hv,hnd,htk,iH,fH=>by
   have iz:=c.inv.freeze c.fresh hf
   simp only [Gl] at hx
   split at hx
   ·rename_i x0 xs' hx0 hxs'
    cases hx
    cases cvl with
    | nil=>simp at hl
    | cons v0 cvl=>
    have r0:=hr 0 p v0 rfl rfl
    have hr': ∀(j:Nat) (p:PV) (v:Value),caps[j]? =some p->cvl[j]? =some v->RP w' ok' mu' p v:=fun j p v h1 h2=>hr (j+1) p v (by simpa using h1) (by simpa using h2)
    have hl':caps.length=cvl.length:=by simpa using hl
    have hxs2: ∀n,x0.length=n-> ∀j,j < xs'.length->nth vs (i+n+j)=nth xs' j:=fun n hn j hj=>by
     have:=hv (n+j) (by simp;omega)
     rw [show i+n+j=i+(n+j) by omega,this]
     unfold nth
     rw [List.getD_eq_getElem?_getD,List.getElem?_append_right (by omega),List.getD_eq_getElem?_getD]
     congr 2;omega
    have hx00: ∀j,j < x0.length->nth vs (i+j)=nth x0 j:=fun j hj=>by
     rw [hv j (by simp;omega)]
     unfold nth
     rw [List.getD_eq_getElem?_getD,List.getElem?_append_left hj,List.getD_eq_getElem?_getD]
    unfold aaO at hx0
    split at hx0
    ·rename_i x
     cases hx0
     have hco:px (none::ks) (PV.imm x::caps)=px ks caps:=rfl
     rw [hco] at hnd htk
     obtain ⟨e1,M2,i2,f2,l2,n2,p2,m2⟩:=Gz c hf ks caps cvl xs' (i+1) H M hxs' hl' hr' (hxs2 1 rfl) hnd htk iH fH
     refine ⟨by simp [zQ,e1];omega,M2,i2,f2,l2,by simp [mD,n2],fun j q v h1 h2=> ?_,m2⟩
     cases j with
     | zero=>
       simp only [mD,List.getElem?_cons_zero,Option.some.injEq] at h1 h2
       subst h1;subst h2
       have h0:=hx00 0 (by simp)
       rw [Nat.add_zero] at h0
       rw [h0]
       cases r0 with
       | imm r0=>exact .imm (r0.more fun b hb=> .inl hb)
     | succ j=>exact p2 j q v (by simpa [mD] using h1) (by simpa using h2)
    ·rename_i n o
     split at hx0
     ·rename_i cs hg
      split at hx0
      ·rename_i hn
       obtain ⟨hil,hia⟩:=Fv hx0
       have hco:px (some n::ks) (PV.ptr o 0::caps)=o::px ks caps:=rfl
       rw [hco] at hnd htk
       simp only [cC,Bool.and_eq_true,Bool.not_eq_true',List.contains_eq_mem,decide_eq_false_iff_not] at hnd
       obtain ⟨hrw,hfree⟩:=htk o List.mem_cons_self
       obtain ⟨hlv,hnf⟩:=cN hrw
       cases r0 with
       | ptr _ _ pl b base hm hlb=>
         have hob:=c.inv.ob o pl hm
         rw [hg] at hob
         have hob1: ∀mu3,ObOk w' (fX ok' mu' fz) mu3 pl (.box .rw (fF vs i n)):=fun mu3=>by
          obtain ⟨b',base',cc,T,q1,q2,q3,q4⟩:=hob
          refine ⟨b',base',cc,T,q1,q2,by rw [cm];omega,fun j p hj=> ?_⟩
          have hjn:j < n:=by have:=(List.getElem?_eq_some_iff.1 hj).1;rw [cm] at this;exact this
          rw [oZ vs i n j hjn] at hj
          cases hj
          obtain ⟨p',g1,g2⟩:=hia j (nth x0 j) (Fu (by omega))
          obtain ⟨u,q5,q6⟩:=q4 j p' g1
          rw [hx00 j (by omega)]
          exact ⟨u,q5,.imm ((g2 q6).more fun b hb=> .inl hb)⟩
         obtain ⟨ia,fa,la⟩:=iH.add fH (ob:= .box .rw (fF vs i n)) (pl:=pl) (hob1 _) (fun b base hb=>by
          obtain ⟨g1,g2,g3⟩:=iz.own o pl b base hm hb
          exact ⟨g1,g2,g3 hlv hnf,fun o2 pl2 base2 g4 g5=>hfree pl b base o2 pl2 base2 hm hb g4 g5⟩)
         have hHl:(H++[Ob.box .rw (fF vs i n)]).length=H.length+1:=by simp
         obtain ⟨e1,M2,i2,f2,l2,n2,p2,m2⟩:=Gz c hf ks caps cvl xs' (i+n) (H++[.box .rw (fF vs i n)]) _ hxs' hl' hr' (hxs2 n (by omega)) hnd.2 (fun o3 ho3=>⟨(htk o3 (List.mem_cons_of_mem _ ho3)).1,fun pl3 b base o2 pl2 base2 g1 g2 g3 g4=>by
          by_cases e:o2=H.length
          ·exfalso
           subst e;simp at g3;subst g3
           have:=iz.inj o o3 pl pl3 b base2 base hm g1 g4 g2 hlv (cN (htk o3 (List.mem_cons_of_mem _ ho3)).1).1
           subst this
           exact hnd.1 ho3
          ·simp only [e,if_false] at g3
           have:=(htk o3 (List.mem_cons_of_mem _ ho3)).2 pl3 b base o2 pl2 base2 g1 g2 g3 g4
           rw [an]
           split
           ·exact this
           ·rename_i hge
            exfalso;rw [fH o2 (by omega)] at g3;cases g3⟩) ia fa
         have hap:H++[Ob.box .rw (fF vs i n)]++lM vs ks (i+n)=H++lM vs (some n::ks) i:=by simp [lM]
         rw [hap] at i2 f2
         rw [hHl] at n2 p2 m2
         refine ⟨by simp [zQ,e1];omega,M2,i2,f2,la.trans l2,by simp [mD,n2],fun j q v h1 h2=> ?_,fun o3 p3 ho3=> ?_⟩
         ·cases j with
          | zero=>
            simp only [mD,List.getElem?_cons_zero,Option.some.injEq] at h1 h2
            subst h1;subst h2
            exact .ptr H.length 0 pl b base (l2.mu _ _ (by simp)) hlb
          | succ j=>exact p2 j q v (by simpa [mD] using h1) (by simpa using h2)
         ·rcases m2 o3 p3 ho3 with ⟨g1,g2⟩ | ⟨g1,g2⟩
          ·by_cases e:o3=H.length
           ·subst e
            simp at g2;subst g2
            exact .inr ⟨Nat.le_refl _,fun b base hb=>⟨o,List.mem_cons_self,pl,base,hm,hb⟩⟩
           ·simp only [e,if_false] at g2
            exact .inl ⟨by omega,g2⟩
          ·refine .inr ⟨by omega,fun b base hb=> ?_⟩
           obtain ⟨k,hk,h5⟩:=g2 b base hb
           exact ⟨k,List.mem_cons_of_mem _ hk,h5⟩
      ·cases hx0
     ·cases hx0
    ·cases hx0
   ·cases hx
theorem sS {mu mu' mu2:Mu} {o:Nat} {h news:List Ob} (hk:o < h.length/\getOb h o= .dead/\ ∃pl,mu o=some pl/\mu' o=some pl) (hl: ∀o pl,mu o=some pl->mu2 o=some pl):
  o < (h++news).length/\getOb (h++news) o= .dead/\ ∃pl,mu2 o=some pl/\mu' o=some pl:=by
 obtain ⟨h1,h2,pl,h3,h4⟩:=hk
 exact ⟨by rw [List.length_append];omega,by rw [an,if_pos h1];exact h2,pl,hl o pl h3,h4⟩
theorem ph {st:St}: ∀{L:List (Nat×Kd)} {vs:List IV},pack st L=some vs-> ∀o∈rz L,o∈taken st L
 | [],_,_,o,ho=>by cases ho
 | (t,kd)::L,vs,hp,o,ho=>by
   simp only [pack] at hp
   split at hp
   ·rename_i x xs hx hxs
    have ih:=ph hxs
    cases kd with
    | K q shp=>
      rcases List.mem_cons.1 ho with rfl | ho
      ·simp only [mC] at hx
       split at hx
       ·split at hx
        ·obtain ⟨⟨vs1,os⟩,hy,_⟩:=Option.map_eq_some_iff.1 hx
         simp only [taken,hy]
         obtain ⟨_,q',hq',hm⟩:=xF hy
         cases hq'
         exact List.mem_append_left _ hm
        ·cases hx
       ·cases hx
      ·simp only [taken];exact List.mem_append_right _ (ih o ho)
    | I=>exact ih o ho
    | S n=>exact ih o ho
    | B sz=>simp only [taken];exact List.mem_append_right _ (ih o ho)
    | G n=>simp only [taken];exact List.mem_append_right _ (ih o ho)
    | M=>simp only [taken];exact List.mem_append_right _ (ih o ho)
    | O shp=>simp only [taken];exact List.mem_append_right _ (ih o ho)
    | C g ks=>simp only [taken];exact List.mem_append_right _ (ih o ho)
   ·cases hp
theorem fh {w':World} {ok':Nat->Prop} {mu':Mu} {st':St} {h1:List Ob} {fz:List Nat} {vs:List IV} (c:Cfg w0 ok0 w' ok' mu' st' a) (hf:qK st'.h fz=some h1):
  ∀(L:List (Nat×Kd)) (i:Nat) (st:St) (mu:Mu) (vt:List IV),pack st' L=some vt->(∀j,j < vt.length->nth vs (i+j)=nth vt j)->(∀q∈aM st' L,q∈fz)->cC (taken st' L)=true->
   (∀o∈taken st' L,isRw (getOb h1 o)=true/\ ∀pl b base o2 pl2 base2,mu' o=some pl->pl.loc=some (b,base)->mu o2=some pl2->pl2.loc=some (b,base2)->(getOb st.h o2).live=false)->Cfg w0 ok0 w' (fX ok' mu' fz) mu st a->(∀o∈rz L,o < st.h.length/\getOb st.h o= .dead/\ ∃pl,mu o=some pl/\mu' o=some pl)->
   ∃mu2,Cfg w0 ok0 w' (fX ok' mu' fz) mu2 (unpack vs L i st) a/\ ∀o pl,mu o=some pl->mu2 o=some pl
 | [],i,st,mu,vt,_,_,_,_,_,cs,_=>⟨mu,cs,fun _ _ h=>h⟩
 | (t,kd)::L,i,st,mu,vt,hp,hv,hfz,hnd,htk,cs,hK=>by
   have iz:=c.inv.freeze c.fresh hf
   have hfro:=dx hf
   have hokl:Later w' ok' mu' w' (fX ok' mu' fz) mu':=⟨⟨fun _ _=>rfl,fun _ h=> .inl h⟩,fun _ _ h=>h,.refl _⟩
   simp only [pack] at hp
   split at hp
   ·rename_i x xs hx hxs
    cases hp
    have hxs': ∀n,x.length=n-> ∀j,j < xs.length->nth vs (i+n+j)=nth xs j:=fun n hn j hj=>by
     have:=hv (n+j) (by simp;omega)
     rw [show i+n+j=i+(n+j) by omega,this]
     unfold nth
     rw [List.getD_eq_getElem?_getD,List.getElem?_append_right (by omega),List.getD_eq_getElem?_getD]
     congr 2;omega
    have hx0: ∀j,j < x.length->nth vs (i+j)=nth x j:=fun j hj=>by
     rw [hv j (by simp;omega)]
     unfold nth
     rw [List.getD_eq_getElem?_getD,List.getElem?_append_left hj,List.getD_eq_getElem?_getD]
    cases kd with
    | I=>
      simp only [mC,Option.map_eq_some_iff] at hx
      obtain ⟨y,hy,rfl⟩:=hx
      simp only [aM,List.mem_append] at hfz
      refine fh c hf L (i+1) _ mu xs hxs (hxs' 1 rfl) (fun q hq=>hfz q (.inr hq)) (by simpa [taken] using hnd) (by simpa [taken] using htk) ⟨cs.inv,cs.fresh,cs.fr.upd fun v hv'=> ?_⟩ hK
      have h0:=hx0 0 (by simp)
      rw [Nat.add_zero] at h0
      rw [h0]
      exact .imm ((l7 c.inv.q 5 _ _ v hy (c.fr.at hv')).more fun b hb=>fX.sub (fun q hq=>hfz q (.inl hq)) hb)
    | S n=>
      simp only [mC] at hx
      split at hx
      ·rename_i ps hps
       split at hx
       ·rename_i hn
        obtain ⟨hl,hg⟩:=ed hx
        simp only [aM,List.mem_append] at hfz
        refine fh c hf L (i+n) _ mu xs hxs (hxs' n (by rw [hl,hn])) (fun q hq=>hfz q (.inr hq)) (by simpa [taken] using hnd) (by simpa [taken] using htk) ⟨cs.inv,cs.fresh,cs.fr.upd fun v hv'=> ?_⟩ hK
        have hr:=c.fr.at hv'
        rw [hps] at hr
        cases hr with
        | agg _ us hlen hrel=>
          refine .agg _ _ (by rw [cm,<-hlen,hn]) fun j p u h2 h3=> ?_
          have hj:j < n:=by have:=(List.getElem?_eq_some_iff.1 h2).1;rw [cm] at this;exact this
          rw [oZ vs i n j hj] at h2
          cases h2
          obtain ⟨y,h4,h5⟩:=hg j ps[j] (List.getElem?_eq_getElem (by omega))
          have h6:nth vs (i+j)=y:=by rw [hx0 j (by omega)];unfold nth;rw [List.getD_eq_getElem?_getD,h4];rfl
          rw [h6]
          refine .imm ((l7 c.inv.q 5 _ _ u h5 (hrel j _ u (List.getElem?_eq_getElem (by omega)) h3)).more fun b hb=>fX.sub (fun q hq=>hfz q (.inl ?_)) hb)
          rw [hps]
          simp only [fu,PV.cells,List.mem_flatMap]
          exact ⟨ps[j],List.getElem_mem _,hq⟩
       ·cases hx
      ·cases hx
    | B sz=>
      simp only [mC] at hx
      have hfz': ∀q∈aM st' L,q∈fz:=by simpa [aM] using hfz
      split at hx
      ·rename_i hps
       split at hx
       case isFalse=>cases hx
       rename_i hpos
       cases hx
       have h0:=hx0 0 (by simp)
       rw [Nat.add_zero] at h0
       have h0':nth vs i= .lst []:=h0
       obtain ⟨ia,fa,la⟩:=cs.inv.add cs.fresh (ob:= .arr .rw sz (.lst [])) (pl:=⟨none,0,sz⟩) (.inl ⟨hpos,rfl,[],rfl,rfl,by simp,fun _=>rfl,fun b base hb=>by cases hb⟩) (fun b base hb=>by cases hb)
       have ht0:taken st' ((t,Kd.B sz)::L)=taken st' L:=by simp only [taken,hps,List.nil_append]
       rw [ht0] at hnd htk
       obtain ⟨mu2,c2,e2⟩:=fh c hf L (i+1) ⟨st.fr.set t (.buf st.h.length (bQ (nth vs i))),st.h++[.arr .rw sz (nth vs i)]⟩ _ xs hxs (hxs' 1 rfl) hfz' hnd (fun o ho=>⟨(htk o ho).1,fun pl b base o2 pl2 base2 g1 g2 g3 g4=>by
        by_cases e:o2=st.h.length
        ·subst e;simp at g3;subst g3;cases g4
        ·simp only [e,if_false] at g3
         have:=(htk o ho).2 pl b base o2 pl2 base2 g1 g2 g3 g4
         rw [an]
         split
         ·exact this
         ·rename_i hge
          exfalso;rw [cs.fresh o2 (by omega)] at g3;cases g3⟩)
        ⟨by rw [h0'];exact ia,by rw [h0'];exact fa,(cs.fr.later la).upd fun v hv'=>by
          have hr:=c.fr.at hv'
          rw [hps] at hr
          cases hr
          rw [h0']
          exact .buf st.h.length 0 _ 0 ⟨none,0,sz⟩ (by simp) rfl ⟨Nat.le_refl _,.inl ⟨rfl,rfl⟩⟩ (fun b base hb=>by cases hb)⟩ fun o ho=>sS (hK o ho) la.mu
       exact ⟨mu2,c2,fun o pl ho=>e2 o pl (la.mu o pl ho)⟩
      ·rename_i o n hps
       split at hx
       ·rename_i sz' y hg
        split at hx
        ·rename_i hsz
         cases hx
         subst hsz
         have h0:=hx0 0 (by simp)
         rw [Nat.add_zero] at h0
         have h0':nth vs i=y:=h0
         have ht0:taken st' ((t,Kd.B sz')::L)=o::taken st' L:=by simp only [taken,hps];rfl
         rw [ht0] at hnd htk
         simp only [cC,Bool.and_eq_true,Bool.not_eq_true',List.contains_eq_mem,decide_eq_false_iff_not] at hnd
         obtain ⟨hrw,hfree⟩:=htk o List.mem_cons_self
         obtain ⟨hlv,hnf⟩:=cN hrw
         by_cases hin:t < a.tmps.size
         ·have hv':a.tmps[t]? =some a.tmps[t]:=Array.getElem?_eq_getElem hin
          have hr:=c.fr.at hv'
          rw [hps] at hr
          generalize hval:a.tmps[t]=v at hr hv'
          cases hr with
          | buf _ _ A cap pl hm hn hh hc=>
            have hob:=c.inv.ob o pl hm
            rw [hg] at hob
            have hob1: ∀mu3,ObOk w' (fX ok' mu' fz) mu3 pl (.arr .rw sz' y):=fun mu3=>by
             obtain ⟨q1,es,q2,q3,q4,q5,q6⟩:=hob.arrC hc
             refine .inl ⟨hob.posC hc,q1,es,q2,q3,q4,q5,fun b base hb=> ?_⟩
             obtain ⟨cc,T,q7,q8,q9⟩:=q6 b base hb
             refine ⟨cc,T,q7,q8,fun i j e x he hx=> ?_⟩
             obtain ⟨u,q10,q11⟩:=q9 i j e x he hx
             exact ⟨u,q10,q11.more fun b hb=> .inl hb⟩
            obtain ⟨ia,fa,la⟩:=cs.inv.add cs.fresh (ob:= .arr .rw sz' y) (pl:=pl) (hob1 _) (fun b base hb=>by
             obtain ⟨g1,g2,g3⟩:=iz.own o pl b base hm hb
             exact ⟨g1,g2,g3 hlv hnf,fun o2 pl2 base2 g4 g5=>hfree pl b base o2 pl2 base2 hm hb g4 g5⟩)
            have hlen:bQ (nth vs i)=n:=by
             obtain ⟨q1,es,q2,q3,_⟩:=hob.arrC hc
             rw [h0',q2,hn];exact q3
            obtain ⟨mu2,c2,e2⟩:=fh c hf L (i+1) ⟨st.fr.set t (.buf st.h.length (bQ (nth vs i))),st.h++[.arr .rw sz' (nth vs i)]⟩ _ xs hxs (hxs' 1 rfl) hfz' hnd.2 (fun o3 ho3=>⟨(htk o3 (List.mem_cons_of_mem _ ho3)).1,fun pl3 b base o2 pl2 base2 g1 g2 g3 g4=>by
             by_cases e:o2=st.h.length
             ·exfalso
              subst e;simp at g3;subst g3
              have:=iz.inj o o3 pl pl3 b base2 base hm g1 g4 g2 hlv (cN (htk o3 (List.mem_cons_of_mem _ ho3)).1).1
              subst this
              exact hnd.1 ho3
             ·simp only [e,if_false] at g3
              have:=(htk o3 (List.mem_cons_of_mem _ ho3)).2 pl3 b base o2 pl2 base2 g1 g2 g3 g4
              rw [an]
              split
              ·exact this
              ·rename_i hge
               exfalso;rw [cs.fresh o2 (by omega)] at g3;cases g3⟩)
             ⟨by rw [h0'];exact ia,by rw [h0'];exact fa,(cs.fr.later la).upd fun u hu=>by
               rw [hv'] at hu;cases hu
               rw [hlen]
               exact .buf st.h.length n A cap pl (by simp) hn hh hc⟩ fun o ho=>sS (hK o ho) la.mu
            exact ⟨mu2,c2,fun o pl ho=>e2 o pl (la.mu o pl ho)⟩
         ·exfalso
          rw [List.getD_eq_getElem?_getD,List.getElem?_eq_none (by rw [c.fr.size];omega)] at hps
          cases hps
        ·cases hx
       ·cases hx
      ·cases hx
    | G n=>
      simp only [mC] at hx
      split at hx
      ·rename_i o hps
       split at hx
       ·rename_i ps hg
        split at hx
        ·rename_i hn
         obtain ⟨hl,hgm⟩:=ed hx
         have ht0:taken st' ((t,Kd.G n)::L)=o::taken st' L:=by simp only [taken,hps];rfl
         have hf0:aM st' ((t,Kd.G n)::L)=ps.flatMap (refs st'.h 5)++aM st' L:=by simp only [aM,hps,hg]
         rw [ht0] at hnd htk
         rw [hf0] at hfz
         simp only [List.mem_append] at hfz
         simp only [cC,Bool.and_eq_true,Bool.not_eq_true',List.contains_eq_mem,decide_eq_false_iff_not] at hnd
         obtain ⟨hrw,hfree⟩:=htk o List.mem_cons_self
         obtain ⟨hlv,hnf⟩:=cN hrw
         by_cases hin:t < a.tmps.size
         ·have hv':a.tmps[t]? =some a.tmps[t]:=Array.getElem?_eq_getElem hin
          have hr:=c.fr.at hv'
          rw [hps] at hr
          generalize hval:a.tmps[t]=v at hr hv'
          cases hr with
          | ptr _ _ pl b base hm hlb=>
            have hob:=c.inv.ob o pl hm
            rw [hg] at hob
            have hob1: ∀mu3,ObOk w' (fX ok' mu' fz) mu3 pl (.box .rw (fF vs i n)):=fun mu3=>by
             obtain ⟨b',base',cc,T,q1,q2,q3,q4⟩:=hob
             refine ⟨b',base',cc,T,q1,q2,by rw [cm];omega,fun j p hj=> ?_⟩
             have hjn:j < n:=by have:=(List.getElem?_eq_some_iff.1 hj).1;rw [cm] at this;exact this
             rw [oZ vs i n j hjn] at hj
             cases hj
             obtain ⟨u,q5,q6⟩:=q4 j ps[j] (List.getElem?_eq_getElem (by omega))
             obtain ⟨y,h4,h5⟩:=hgm j ps[j] (List.getElem?_eq_getElem (by omega))
             have h6:nth vs (i+j)=y:=by rw [hx0 j (by omega)];unfold nth;rw [List.getD_eq_getElem?_getD,h4];rfl
             rw [h6]
             exact ⟨u,q5,.imm ((l7 c.inv.q 5 _ _ u h5 q6).more fun b hb=>fX.sub (fun q hq=>hfz q (.inl (List.mem_flatMap.2 ⟨ps[j],List.getElem_mem _,hq⟩))) hb)⟩
            obtain ⟨ia,fa,la⟩:=cs.inv.add cs.fresh (ob:= .box .rw (fF vs i n)) (pl:=pl) (hob1 _) (fun b base hb=>by
             obtain ⟨g1,g2,g3⟩:=iz.own o pl b base hm hb
             exact ⟨g1,g2,g3 hlv hnf,fun o2 pl2 base2 g4 g5=>hfree pl b base o2 pl2 base2 hm hb g4 g5⟩)
            obtain ⟨mu2,c2,e2⟩:=fh c hf L (i+n) ⟨st.fr.set t (.ptr st.h.length 0),st.h++[.box .rw (fF vs i n)]⟩ _ xs hxs (hxs' n (by rw [hl,hn])) (fun q hq=>hfz q (.inr hq)) hnd.2 (fun o3 ho3=>⟨(htk o3 (List.mem_cons_of_mem _ ho3)).1,fun pl3 b base o2 pl2 base2 g1 g2 g3 g4=>by
             by_cases e:o2=st.h.length
             ·exfalso
              subst e;simp at g3;subst g3
              have:=iz.inj o o3 pl pl3 b base2 base hm g1 g4 g2 hlv (cN (htk o3 (List.mem_cons_of_mem _ ho3)).1).1
              subst this
              exact hnd.1 ho3
             ·simp only [e,if_false] at g3
              have:=(htk o3 (List.mem_cons_of_mem _ ho3)).2 pl3 b base o2 pl2 base2 g1 g2 g3 g4
              rw [an]
              split
              ·exact this
              ·rename_i hge
               exfalso;rw [cs.fresh o2 (by omega)] at g3;cases g3⟩)
             ⟨ia,fa,(cs.fr.later la).upd fun u hu=>by
               rw [hv'] at hu;cases hu
               exact .ptr st.h.length 0 pl b base (by simp) hlb⟩ fun o ho=>sS (hK o ho) la.mu
            exact ⟨mu2,c2,fun o pl ho=>e2 o pl (la.mu o pl ho)⟩
         ·exfalso
          rw [List.getD_eq_getElem?_getD,List.getElem?_eq_none (by rw [c.fr.size];omega)] at hps
          cases hps
        ·cases hx
       ·cases hx
      ·cases hx
    | M=>
      simp only [mC] at hx
      have hfz': ∀q∈aM st' L,q∈fz:=by simpa [aM] using hfz
      split at hx
      ·rename_i o hps
       split at hx
       ·rename_i sz y hg
        ·cases hx
         have h0:=hx0 0 (by simp)
         rw [Nat.add_zero] at h0
         have h0':nth vs i=y:=h0
         have ht0:taken st' ((t,Kd.M)::L)=o::taken st' L:=by simp only [taken,hps];rfl
         rw [ht0] at hnd htk
         simp only [cC,Bool.and_eq_true,Bool.not_eq_true',List.contains_eq_mem,decide_eq_false_iff_not] at hnd
         obtain ⟨hrw,hfree⟩:=htk o List.mem_cons_self
         obtain ⟨hlv,hnf⟩:=cN hrw
         by_cases hin:t < a.tmps.size
         ·have hv':a.tmps[t]? =some a.tmps[t]:=Array.getElem?_eq_getElem hin
          have hr:=c.fr.at hv'
          rw [hps] at hr
          generalize hval:a.tmps[t]=v at hr hv'
          cases hr with
          | mp _ pl b hm hlb hz0=>
            have hob:=c.inv.ob o pl hm
            rw [hg] at hob
            obtain ⟨_,es,rfl,hmap⟩:=hob.mapZ hz0 hlb
            have hob1: ∀mu3,ObOk w' (fX ok' mu' fz) mu3 pl (.arr .rw 0 (.map es)):=fun mu3=>
             .inr ⟨hz0,es,b,rfl,hlb,hmap.keeps ⟨fun _ _=>rfl,fun b hb=> .inl hb⟩ rfl⟩
            obtain ⟨ia,fa,la⟩:=cs.inv.add cs.fresh (ob:= .arr .rw 0 (.map es)) (pl:=pl) (hob1 _) (fun b base hb=>by
             obtain ⟨g1,g2,g3⟩:=iz.own o pl b base hm hb
             exact ⟨g1,g2,g3 hlv hnf,fun o2 pl2 base2 g4 g5=>hfree pl b base o2 pl2 base2 hm hb g4 g5⟩)
            obtain ⟨mu2,c2,e2⟩:=fh c hf L (i+1) ⟨st.fr.set t (.mp st.h.length),st.h++[.arr .rw 0 (nth vs i)]⟩ _ xs hxs (hxs' 1 rfl) hfz' hnd.2 (fun o3 ho3=>⟨(htk o3 (List.mem_cons_of_mem _ ho3)).1,fun pl3 b base o2 pl2 base2 g1 g2 g3 g4=>by
             by_cases e:o2=st.h.length
             ·exfalso
              subst e;simp at g3;subst g3
              have:=iz.inj o o3 pl pl3 b base2 base hm g1 g4 g2 hlv (cN (htk o3 (List.mem_cons_of_mem _ ho3)).1).1
              subst this
              exact hnd.1 ho3
             ·simp only [e,if_false] at g3
              have:=(htk o3 (List.mem_cons_of_mem _ ho3)).2 pl3 b base o2 pl2 base2 g1 g2 g3 g4
              rw [an]
              split
              ·exact this
              ·rename_i hge
               exfalso;rw [cs.fresh o2 (by omega)] at g3;cases g3⟩)
             ⟨by rw [h0'];exact ia,by rw [h0'];exact fa,(cs.fr.later la).upd fun u hu=>by
               rw [hv'] at hu;cases hu
               exact .mp st.h.length pl b (by simp) hlb hz0⟩ fun o ho=>sS (hK o ho) la.mu
            exact ⟨mu2,c2,fun o pl ho=>e2 o pl (la.mu o pl ho)⟩
         ·exfalso
          rw [List.getD_eq_getElem?_getD,List.getElem?_eq_none (by rw [c.fr.size];omega)] at hps
          cases hps
       ·cases hx
      ·cases hx
    | C g ks=>
      simp only [mC] at hx
      split at hx
      ·rename_i g' caps hps
       split at hx
       ·rename_i hgg
        subst hgg
        have hfz': ∀q∈aM st' L,q∈fz:=by simpa [aM] using hfz
        have ht0:taken st' ((t,Kd.C g' ks)::L)=px ks caps++taken st' L:=by simp only [taken,hps]
        rw [ht0] at hnd htk
        obtain ⟨hnd1,hnd2⟩:=jM hnd
        by_cases hin:t < a.tmps.size
        ·have hv':a.tmps[t]? =some a.tmps[t]:=Array.getElem?_eq_getElem hin
         have hr:=c.fr.at hv'
         rw [hps] at hr
         generalize hval:a.tmps[t]=v at hr hv'
         cases hr with
         | clo _ _ cv hlen hrel=>
           obtain ⟨e1,M2,i2,f2,l2,n2,p2,m2⟩:=Gz c hf ks caps cv.toList x i st.h mu hx (by simpa using hlen) (fun j p v h1 h2=>hrel j p v h1 (by simpa using h2)) hx0 (DD hnd) (fun o ho=>htk o (List.mem_append_left _ ho)) cs.inv cs.fresh
           obtain ⟨mu2,c2,e2⟩:=fh c hf L (i+zQ ks) ⟨st.fr.set t (.clo (.func g') (mD vs ks i st.h.length)),st.h++lM vs ks i⟩ M2 xs hxs (hxs' _ e1) hfz' hnd1 (fun o3 ho3=>⟨(htk o3 (List.mem_append_right _ ho3)).1,fun pl3 b base o2 pl2 base2 g1 g2 g3 g4=>by
            have hlv3:=(cN (htk o3 (List.mem_append_right _ ho3)).1).1
            rcases m2 o2 pl2 g3 with ⟨hlt,g3'⟩ | ⟨_,hloc⟩
            ·rw [an,if_pos hlt]
             exact (htk o3 (List.mem_append_right _ ho3)).2 pl3 b base o2 pl2 base2 g1 g2 g3' g4
            ·exfalso
             obtain ⟨k,hk,plq,bs,k1,k2⟩:=hloc b base2 g4
             have:=iz.inj k o3 plq pl3 b bs base k1 g1 k2 g2 (cN (htk k (List.mem_append_left _ hk)).1).1 hlv3
             subst this
             exact hnd2 k hk ho3⟩)
            ⟨i2,f2,(cs.fr.later l2).upd fun u hu=>by
              rw [hv'] at hu;cases hu
              exact .clo _ _ _ (by simpa using n2) fun j p v h1 h2=>p2 j p v h1 (by simpa using h2)⟩ fun o ho=>sS (hK o ho) l2.mu
           exact ⟨mu2,c2,fun o pl ho=>e2 o pl (l2.mu o pl ho)⟩
        ·exfalso
         rw [List.getD_eq_getElem?_getD,List.getElem?_eq_none (by rw [c.fr.size];omega)] at hps
         cases hps
       ·cases hx
      ·cases hx
    | O shp=>
      simp only [mC,Option.map_eq_some_iff] at hx
      obtain ⟨⟨vs1,os⟩,hy,rfl⟩:=hx
      obtain ⟨_,q,hq,_⟩:=xF hy
      have hfz': ∀q∈aM st' L,q∈fz:=by simpa [aM] using hfz
      have ht0:taken st' ((t,Kd.O shp)::L)=os++taken st' L:=by simp only [taken,hy]
      rw [ht0] at hnd htk
      obtain ⟨hnd1,hnd2⟩:=jM hnd
      rw [hq] at hy
      by_cases hin:t < a.tmps.size
      ·have hv':a.tmps[t]? =some a.tmps[t]:=Array.getElem?_eq_getElem hin
       have hr:=c.fr.at hv'
       rw [hq] at hr
       generalize hval:a.tmps[t]=v at hr hv'
       obtain ⟨pl,pA,hm,tv,hlen,hrw,hqos,hA⟩:=rZ c.inv hy hr
       have hokm: ∀b,ok' b->fX ok' mu' fz b:=fun b hb=> .inl hb
       have hlv: ∀k∈os,isRw (getOb h1 k)=true:=fun k hk=>(htk k (List.mem_append_left _ hk)).1
       have hfree: ∀k∈os,∀pl b base o2 pl2 base2,mu' k=some pl->pl.loc=some (b,base)->mu o2=some pl2->pl2.loc=some (b,base2)->(getOb st.h o2).live=false:=fun k hk=>(htk k (List.mem_append_left _ hk)).2
       have hobj: ∀b,ObjLoc shp pl pA b-> ∃k∈os,∃plq base,mu' k=some plq/\plq.loc=some (b,base):=fun b hb=>by
        rcases hb with ⟨base,hb⟩ | hb
        ·exact ⟨q,hqos,pl,base,hm,hb⟩
        ·obtain ⟨k,hk,_,plq,base,g1,g2⟩:=hA b hb
         exact ⟨k,hk,plq,base,g1,g2⟩
       have hno: ∀b,ObjLoc shp pl pA b-> ¬fX ok' mu' fz b:=fun b hb=>by
        obtain ⟨k,hk,plq,base,g1,g2⟩:=hobj b hb
        exact (iz.own k plq b base g1 g2).2.2 (cN (hlv k hk)).1 (cN (hlv k hk)).2
       obtain ⟨muX,ib,fb,lb,mb,mall⟩:=cs.inv.addObj cs.fresh (r:=vs) (i0:=i) (tv.more hokm hno) (fun j hj=>hx0 j (by rw [hlen];exact hj)) (fun b hb=>by
        obtain ⟨k,hk,plq,base,g1,g2⟩:=hobj b hb
        obtain ⟨e1,e2,e3⟩:=iz.own k plq b base g1 g2
        exact ⟨e1,e2,fun o2 pl2 base2 g4 g5=>hfree k hk plq b base o2 pl2 base2 g1 g2 g4 g5⟩)
       have hl2:(st.h++(bp vs shp i++[Ob.box .rw (bI (st.h.length+shp.length) vs shp st.h.length i)])).length=st.h.length+(shp.length+1):=by simp [iD]
       obtain ⟨mu2,c2,e2⟩:=fh c hf L (i+shp.length) ⟨st.fr.set t (.ptr (st.h.length+shp.length) 0),st.h++(bp vs shp i++[.box .rw (bI (st.h.length+shp.length) vs shp st.h.length i)])⟩ _ xs hxs (hxs' shp.length hlen) hfz' hnd1 (fun o3 ho3=>⟨(htk o3 (List.mem_append_right _ ho3)).1,fun pl3 b base o2 pl2 base2 g1 g2 g3 g4=>by
        have hlv3:=(cN (htk o3 (List.mem_append_right _ ho3)).1).1
        rcases mall o2 pl2 g3 with ⟨hlt,g3'⟩ | ⟨_,hloc⟩
        ·rw [an,if_pos hlt]
         exact (htk o3 (List.mem_append_right _ ho3)).2 pl3 b base o2 pl2 base2 g1 g2 g3' g4
        ·exfalso
         obtain ⟨k,hk,plq,bs,k1,k2⟩:=hobj b (hloc b base2 g4)
         have:=iz.inj k o3 plq pl3 b bs base k1 g1 k2 g2 (cN (hlv k hk)).1 hlv3
         subst this
         exact hnd2 k hk ho3⟩)
        ⟨ib,fb,(cs.fr.later lb).upd fun u hu=>by
          rw [hv'] at hu;cases hu
          obtain ⟨b,base,cc,T,hl,hv2,_⟩:=tv.box
          rw [hv2]
          exact .ptr (st.h.length+shp.length) 0 pl b base mb hl⟩ fun o ho=>sS (hK o ho) lb.mu
       exact ⟨mu2,c2,fun o pl ho=>e2 o pl (lb.mu o pl ho)⟩
      ·exfalso
       rw [List.getD_eq_getElem?_getD,List.getElem?_eq_none (by rw [c.fr.size];omega)] at hq
       cases hq
    | K o0 shp=>
      simp only [mC] at hx
      split at hx
      ·rename_i q hq
       split at hx
       ·rename_i hqo
        subst hqo
        obtain ⟨⟨vs1,os⟩,hy,rfl⟩:=Option.map_eq_some_iff.1 hx
        have hfz': ∀q∈aM st' L,q∈fz:=by simpa [aM] using hfz
        have ht0:taken st' ((t,Kd.K q shp)::L)=os++taken st' L:=by simp only [taken,hy]
        rw [ht0] at hnd htk
        obtain ⟨hnd1,hnd2⟩:=jM hnd
        obtain ⟨hqlt,hqd,plK,hmK,hmK'⟩:=hK q List.mem_cons_self
        by_cases hin:t < a.tmps.size
        ·have hv':a.tmps[t]? =some a.tmps[t]:=Array.getElem?_eq_getElem hin
         have hr:=c.fr.at hv'
         rw [hq] at hr
         generalize hval:a.tmps[t]=v at hr hv'
         obtain ⟨pl,pA,hm,tv,hlen,hrw,hqos,hA⟩:=rZ c.inv hy hr
         have epl:pl=plK:=Option.some.inj (hm.symm.trans hmK')
         subst epl
         have hokm: ∀b,ok' b->fX ok' mu' fz b:=fun b hb=> .inl hb
         have hlv: ∀k∈os,isRw (getOb h1 k)=true:=fun k hk=>(htk k (List.mem_append_left _ hk)).1
         have hfree: ∀k∈os,∀pl b base o2 pl2 base2,mu' k=some pl->pl.loc=some (b,base)->mu o2=some pl2->pl2.loc=some (b,base2)->(getOb st.h o2).live=false:=fun k hk=>(htk k (List.mem_append_left _ hk)).2
         have hobj: ∀b,ObjLoc shp pl pA b-> ∃k∈os,∃plq base,mu' k=some plq/\plq.loc=some (b,base):=fun b hb=>by
          rcases hb with ⟨base,hb⟩ | hb
          ·exact ⟨q,hqos,pl,base,hm,hb⟩
          ·obtain ⟨k,hk,_,plq,base,g1,g2⟩:=hA b hb
           exact ⟨k,hk,plq,base,g1,g2⟩
         have hno: ∀b,ObjLoc shp pl pA b-> ¬fX ok' mu' fz b:=fun b hb=>by
          obtain ⟨k,hk,plq,base,g1,g2⟩:=hobj b hb
          exact (iz.own k plq b base g1 g2).2.2 (cN (hlv k hk)).1 (cN (hlv k hk)).2
         have tv2:=tv.more hokm hno
         obtain ⟨muX,ib,fb,lb,hbox,mall⟩:=cs.inv.addArrs cs.fresh (r:=vs) (i0:=i) tv2 (fun j hj=>hx0 j (by rw [hlen];exact hj)) (fun b hb=>by
          obtain ⟨k,hk,plq,base,g1,g2⟩:=hobj b hb
          obtain ⟨e1,e2,e3⟩:=iz.own k plq b base g1 g2
          exact ⟨e1,e2,fun o2 pl2 base2 g4 g5=>hfree k hk plq b base o2 pl2 base2 g1 g2 g4 g5⟩) hmK
         have hql2:q < (st.h++bp vs shp i).length:=by rw [List.length_append];omega
         have hqnew: ∀o2,o2 < st.h.length->getOb (st.h++bp vs shp i) o2=getOb st.h o2:=fun o2 h=>by rw [an,if_pos h]
         have ic:=ib.reviveK (lb.mu q pl hmK) hql2 hbox (fun b base hb=>hno b (.inl ⟨base,hb⟩)) (fun b base o2 pl2 base2 g1 g2 g3 g4=>by
          rcases mall o2 pl2 g2 with ⟨hlt,g5⟩ | ⟨_,hloc⟩
          ·rw [hqnew o2 hlt]
           exact hfree q hqos pl b base o2 pl2 base2 hm g1 g5 g3
          ·exact absurd (hloc b base2 g3) (tv.apart b base g1))
         obtain ⟨mu2,c2,e2⟩:=fh c hf L (i+shp.length) ⟨st.fr.set t (.ptr q 0),(st.h++bp vs shp i).set q (.box .rw (bI q vs shp st.h.length i))⟩ _ xs hxs (hxs' shp.length hlen) hfz' hnd1 (fun o3 ho3=>⟨(htk o3 (List.mem_append_right _ ho3)).1,fun pl3 b base o2 pl2 base2 g1 g2 g3 g4=>by
          have hlv3:=(cN (htk o3 (List.mem_append_right _ ho3)).1).1
          by_cases e:o2=q
          ·exfalso
           subst e
           rw [lb.mu o2 pl hmK] at g3;cases g3
           have:=iz.inj o2 o3 pl pl3 b base2 base hm g1 g4 g2 (cN (hlv o2 hqos)).1 hlv3
           subst this
           exact hnd2 o2 hqos ho3
          ·rw [aR,if_neg (fun h=>e h.1.symm)]
           rcases mall o2 pl2 g3 with ⟨hlt,g3'⟩ | ⟨_,hloc⟩
           ·rw [hqnew o2 hlt]
            exact (htk o3 (List.mem_append_right _ ho3)).2 pl3 b base o2 pl2 base2 g1 g2 g3' g4
           ·exfalso
            obtain ⟨k,hk,plq,bs,k1,k2⟩:=hobj b (.inr (hloc b base2 g4))
            have:=iz.inj k o3 plq pl3 b bs base k1 g1 k2 g2 (cN (hlv k hk)).1 hlv3
            subst this
            exact hnd2 k hk ho3⟩)
          ⟨ic,fun q2 hq2=>fb q2 (by rwa [List.length_set] at hq2),(cs.fr.later lb).upd fun u hu=>by
            rw [hv'] at hu;cases hu
            obtain ⟨b,base,cc,T,hl,hv2,_⟩:=tv.box
            rw [hv2]
            exact .ptr q 0 pl b base (lb.mu q pl hmK) hl⟩ fun o ho=>by
             have hne:q≠o:=fun e=>by
              subst e
              exact hnd2 q hqos (ph hxs q ho)
             obtain ⟨g1,g2,pl3,g3,g4⟩:=sS (news:=bp vs shp i) (hK o (List.mem_cons_of_mem _ ho)) lb.mu
             exact ⟨by rw [List.length_set];exact g1,by rw [aR,if_neg (fun h=>hne h.1)];exact g2,pl3,g3,g4⟩
         exact ⟨mu2,c2,fun o pl ho=>e2 o pl (lb.mu o pl ho)⟩
        ·exfalso
         rw [List.getD_eq_getElem?_getD,List.getElem?_eq_none (by rw [c.fr.size];omega)] at hq
         cases hq
       ·cases hx
      ·cases hx
   ·cases hp
end
end Go.AM
namespace Go.AM
open Go.RowKit
theorem Af: ∀(W:List Nat) (fr:List PV) (t:Nat) (p:PV),t∈W->(forget fr W)[t]? =some p->p= .undef
 | [],fr,t,p,h,_=>by cases h
 | x::W,fr,t,p,h,hp=>by
   simp only [forget] at hp
   by_cases e:t∈W
   ·exact Af W _ t p e hp
   ·have hx:t=x:=by
     rcases List.mem_cons.1 h with h1 | h1
     ·exact h1
     ·exact absurd h1 e
    subst hx
    have keep: ∀(W:List Nat) (fr:List PV),t∉W->(forget fr W)[t]? =fr[t]? :=by
     intro W
     induction W with
     | nil=>intro fr _;rfl
     | cons y W ih=>
       intro fr hn
       simp only [List.mem_cons,not_or] at hn
       simp only [forget]
       rw [ih _ hn.2,List.getElem?_set_ne (Ne.symm hn.1)]
    rw [keep W _ e,List.getElem?_set] at hp
    simp only [if_true] at hp
    split at hp
    ·cases hp;rfl
    ·cases hp
theorem DE: ∀(W:List Nat) (fr:List PV) (t:Nat),t∉W->(forget fr W)[t]? =fr[t]?
 | [],fr,t,_=>rfl
 | y::W,fr,t,hn=>by
   simp only [List.mem_cons,not_or] at hn
   simp only [forget]
   rw [DE W _ t hn.2,List.getElem?_set_ne (Ne.symm hn.1)]
theorem yK: ∀(W:List Nat) (fr:List PV),(forget fr W).length=fr.length
 | [],_=>rfl
 | y::W,fr=>by simp only [forget];rw [yK W];simp
section
variable {w0:World} {ok0:O0} {w w':World} {ok ok':Nat->Prop} {mu mu':Mu} {h:List Ob} {a a':Act}
theorem Fr.turned {fr:List PV} {W:List Nat} (r:Fr w ok mu fr a.tmps) (hl:Later w ok mu w' ok' mu') (hs: ∀t,t∉W->a'.tmps[t]? =a.tmps[t]?) (hz:a'.tmps.size=a.tmps.size):Fr w' ok' mu' (AM.forget fr W) a'.tmps:=by
 refine ⟨by rw [yK,r.size,hz],fun t p v h1 h2=> ?_⟩
 by_cases e:t∈W
 ·rw [Af W fr t p e h1];exact .undef v
 ·rw [DE W fr t e] at h1
  rw [hs t e] at h2
  exact (r.rel t p v h1 h2).later hl
theorem Inv.less (i:Inv w0 ok0 w ok mu h) {H:List Ob} (hs: ∀o,(getOb H o).live=true->(getOb h o).fz=true/\(getOb H o).fz=true/\BD (getOb H o) (getOb h o)\/(∃m cs,getOb h o= .box m cs/\ ∃m',getOb H o= .box m' cs/\((getOb H o).fz=false->(getOb h o).fz=false))\/(∃m s z,getOb h o= .arr m s z/\ ∃m',getOb H o= .arr m' s z/\((getOb H o).fz=false->(getOb h o).fz=false))):Inv w0 ok0 w ok mu H:=by
 have hlv: ∀o,(getOb H o).live=true->(getOb h o).live=true:=fun o h1=>by
  rcases hs o h1 with ⟨_,_,h2⟩ | ⟨m,cs,h2,_⟩ | ⟨m,s,z,h2,_⟩
  ·exact h2.live
  ·rw [h2];rfl
  ·rw [h2];rfl
 refine ⟨i.below,i.okw,i.okb,fun o pl ho=> ?_,fun o pl b base ho hb=> ?_,fun o o' pl pl' b base base' ho ho' hb hb' h1 h2=>i.inj o o' pl pl' b base base' ho ho' hb hb' (hlv o h1) (hlv o' h2)⟩
 ·cases hx:(getOb H o).live with
  | false=>
    cases hy:getOb H o with
    | dead=>trivial
    | box m cs=>rw [hy] at hx;cases hx
    | arr m s z=>rw [hy] at hx;cases hx
  | true=>
    have h0:=i.ob o pl ho
    rcases hs o hx with ⟨_,_,_,⟨m,m',cs,h2,h3⟩ | ⟨m,m',s,z,h2,h3⟩⟩ | ⟨m,cs,h2,m',h3,_⟩ | ⟨m,s,z,h2,m',h3,_⟩
    ·rw [h3] at h0;rw [h2];exact h0
    ·rw [h3] at h0;rw [h2];exact h0
    ·rw [h2] at h0;rw [h3];exact h0
    ·rw [h2] at h0;rw [h3];exact h0
 ·obtain ⟨h1,h2,h3⟩:=i.own o pl b base ho hb
  refine ⟨h1,h2,fun h4 h5=>h3 (hlv o h4) ?_⟩
  rcases hs o h4 with ⟨_,h6,_⟩ | ⟨m,cs,h6,m',_,h7⟩ | ⟨m,s,z,h6,m',_,h7⟩
  ·rw [h5] at h6;cases h6
  ·exact h7 h5
  ·exact h7 h5
theorem Inv.same (i:Inv w0 ok0 w ok mu h) {H:List Ob} (hs: ∀o,(getOb H o).live=true->BD (getOb H o) (getOb h o)):Inv w0 ok0 w ok mu H:=
 i.less fun o ho=>by
   obtain ⟨h1,⟨m,m',cs,h2,h3⟩ | ⟨m,m',s,z,h2,h3⟩⟩:=hs o ho
   ·exact .inr (.inl ⟨m',cs,h3,m,h2,fun h=>h1▸h⟩)
   ·exact .inr (.inr ⟨m',s,z,h3,m,h2,fun h=>h1▸h⟩)
theorem Gj {wB:World} {okB:Nat->Prop} {muB:Mu} {fr1:List PV} {base:List Ob} {aB:Act} {W:List Nat} (B:Cfg w0 ok0 wB okB muB ⟨fr1,base⟩ aB) (hW: ∀t p,t∈W->fr1[t]? =some p->p= .undef)
  {st':St} (c:Cfg w0 ok0 w' ok' mu' st' a') (hl:Later wB okB muB w' ok' mu') (hsame: ∀t,t∉W->a'.tmps[t]? =aB.tmps[t]?) (hsz:a'.tmps.size=aB.tmps.size)
  {L:List (Nat×Kd)} {vs:List IV} {h1:List Ob} (hp:pack st' L=some vs) (hf:qK st'.h (aM st' L)=some h1) (hm:jv st' h1 L=true)
  (hc: ∀o,(getOb base o).live=true->o∉taken st' L/\BD (getOb base o) (getOb h1 o)) (hK: ∀o∈rz L,o < base.length/\getOb base o= .dead/\ ∃pl,muB o=some pl):
  ∃ok2 mu2,Cfg w0 ok0 w' ok2 mu2 (unpack vs L 0 ⟨fr1,base⟩) a'/\Later wB okB muB w' ok2 mu2:=by
 have iz:=c.inv.freeze c.fresh hf
 simp only [jv,Bool.and_eq_true,List.all_eq_true] at hm
 have hlz:Later wB okB muB w' (fX ok' mu' (aM st' L)) mu':=⟨⟨hl.keeps.block,fun b hb=> .inl (hl.keeps.more b hb)⟩,hl.mu,hl.sizes⟩
 have hlB:Later wB okB muB w' (fX ok' mu' (aM st' L)) muB:=⟨hlz.keeps,fun _ _ h=>h,hlz.sizes⟩
 have hdom: ∀o,muB o≠none->muB o=mu' o:=fun o ho=>by
  cases hx:muB o with
  | none=>exact absurd hx ho
  | some pl=>exact (hl.mu o pl hx).symm
 have hmid:Cfg w0 ok0 w' (fX ok' mu' (aM st' L)) muB ⟨fr1,base⟩ a':=by
  refine ⟨⟨iz.below,iz.okw,iz.okb,fun o pl ho=> ?_,fun o pl b bs ho hb=> ?_,fun o o' pl pl' b bs bs' ho ho' hb hb' h2 h3=> ?_⟩,B.fresh,?_⟩
  ·have hb0:=B.inv.ob o pl ho
   have hz:=iz.ob o pl (hl.mu o pl ho)
   cases hx:getOb base o with
   | dead=>trivial
   | arr m s z=>
     obtain ⟨_,_,h3⟩:=hc o (by rw [hx];rfl)
     rw [hx] at h3
     rcases h3 with ⟨m1,m2,cs,e1,_⟩ | ⟨m1,m2,s',z',e1,e2⟩
     ·cases e1
     ·cases e1
      rw [e2] at hz
      exact hz
   | box m cs=>
     obtain ⟨_,_,h3⟩:=hc o (by rw [hx];rfl)
     rw [hx] at h3 hb0
     rcases h3 with ⟨m1,m2,cs',e1,e2⟩ | ⟨m1,m2,s',z',e1,_⟩
     ·cases e1
      rw [e2] at hz
      obtain ⟨b,bs,cc,T,g1,g2,g3,g4⟩:=hz
      obtain ⟨b',bs',cc',T',k1,k2,k3,k4⟩:=hb0
      refine ⟨b,bs,cc,T,g1,g2,g3,fun j p hj=> ?_⟩
      obtain ⟨v,g5,g6⟩:=g4 j p hj
      obtain ⟨v',k5,k6⟩:=k4 j p hj
      exact ⟨v,g5,k6.restrict hdom g6⟩
     ·cases e1
  ·obtain ⟨g1,g2,g3⟩:=iz.own o pl b bs (hl.mu o pl ho) hb
   refine ⟨g1,g2,fun hlv hnf=> ?_⟩
   obtain ⟨_,h3⟩:=hc o hlv
   exact g3 h3.live (by rw [<-h3.1];exact hnf)
  ·exact iz.inj o o' pl pl' b bs bs' (hl.mu o pl ho) (hl.mu o' pl' ho') hb hb' (hc o h2).2.live (hc o' h3).2.live
  ·refine ⟨by rw [B.fr.size,hsz],fun t p v h2 h3=> ?_⟩
   by_cases e:t∈W
   ·rw [hW t p e h2];exact .undef v
   ·rw [hsame t e] at h3
    exact (B.fr.rel t p v h2 h3).later hlB
 obtain ⟨mu2,c2,e2⟩:=fh (vs:=vs) c hf L 0 ⟨fr1,base⟩ muB vs hp (fun j _=>by rw [Nat.zero_add]) (fun q hq=>hq) hm.1 (fun o ho=>⟨hm.2 o ho,fun pl b bs o2 pl2 bs2 g1 g2 g3 g4=>by
  cases hx:(getOb base o2).live with
  | false=>rfl
  | true=>
    obtain ⟨h2,h3⟩:=hc o2 hx
    have:=iz.inj o o2 pl pl2 b bs bs2 g1 (hl.mu o2 pl2 g3) g2 g4 (cN (hm.2 o ho)).1 h3.live
    subst this
    exact absurd ho h2⟩) hmid fun o ho=>by
     obtain ⟨g1,g2,pl,g3⟩:=hK o ho
     exact ⟨g1,g2,pl,g3,hl.mu o pl g3⟩
 exact ⟨_,mu2,c2,hlB.keeps,fun o pl ho=>e2 o pl ho,hlB.sizes⟩
theorem th (vs:List IV): ∀(L:List (Nat×Kd)) (i:Nat) (st:St),st.h.length<=(unpack vs L i st).h.length/\ ∀o,o < st.h.length->o∉rz L->getOb (unpack vs L i st).h o=getOb st.h o:=by
 intro L
 have app: ∀(L:List (Nat×Kd)) (i:Nat) (fr:List PV) (h news:List Ob),(∀(i:Nat) (st:St),st.h.length<=(unpack vs L i st).h.length/\ ∀o,o < st.h.length->o∉rz L->getOb (unpack vs L i st).h o=getOb st.h o)->
   h.length<=(unpack vs L i ⟨fr,h++news⟩).h.length/\ ∀o,o < h.length->o∉rz L->getOb (unpack vs L i ⟨fr,h++news⟩).h o=getOb h o:=fun L i fr h news ih=>by
  obtain ⟨h1,h2⟩:=ih i ⟨fr,h++news⟩
  simp only [List.length_append] at h1 h2
  exact ⟨by omega,fun o ho hk=>by rw [h2 o (by omega) hk,an,if_pos ho]⟩
 induction L with
 | nil=>intro i st;exact ⟨Nat.le_refl _,fun _ _ _=>rfl⟩
 | cons x L ih=>
   intro i st
   obtain ⟨t,kd⟩:=x
   cases kd with
   | I=>exact ih (i+1) ⟨st.fr.set t (.imm (nth vs i)),st.h⟩
   | S n=>exact ih (i+n) ⟨st.fr.set t (.agg (fF vs i n)),st.h⟩
   | B sz=>exact app L _ _ st.h _ ih
   | G n=>exact app L _ _ st.h _ ih
   | M=>exact app L _ _ st.h _ ih
   | C g ks=>exact app L _ _ st.h _ ih
   | O shp=>exact app L _ _ st.h _ ih
   | K q shp=>
     obtain ⟨h1,h2⟩:=ih (i+shp.length) ⟨st.fr.set t (.ptr q 0),(st.h++bp vs shp i).set q (.box .rw (bI q vs shp st.h.length i))⟩
     simp only [List.length_set,List.length_append] at h1 h2
     refine ⟨by simp only [unpack];omega,fun o ho hk=> ?_⟩
     simp only [rz,List.mem_cons,not_or] at hk
     simp only [unpack]
     rw [h2 o (by omega) hk.2,aR,if_neg (fun h=>hk.1 h.1.symm),an,if_pos ho]
theorem TC {w0:World} {ok0:O0} {w:World} {ok:Nat->Prop} {mu:Mu} {st:St} {a:Act} (c:Cfg w0 ok0 w ok mu st a): ∀{L:List (Nat×Kd)} {vs:List IV},pack st L=some vs-> ∀o∈rz L,∃pl,mu o=some pl
 | [],_,_,o,ho=>by cases ho
 | (t,kd)::L,vs,hp,o,ho=>by
   simp only [pack] at hp
   split at hp
   ·rename_i x xs hx hxs
    have ih:=TC c hxs
    cases kd with
    | K q shp=>
      rcases List.mem_cons.1 ho with rfl | ho
      ·simp only [mC] at hx
       split at hx
       ·rename_i q' hq
        split at hx
        ·rename_i e
         subst e
         have r:=c.fr.ev (.tmp t)
         simp only [ev,hq] at r
         generalize a.eval (.tmp t)=v at r
         cases r with
         | ptr _ _ pl b base hm hl=>exact ⟨pl,hm⟩
        ·cases hx
       ·cases hx
      ·exact ih o ho
    | _=>exact ih o ho
   ·cases hp
end
section
variable (Γ:FuncId->Option FSig) (A:Ann)
def cP:Code->Bool
 | .region id ops draw=>if draw then (match A.order id with | some (F,A',B)=>F2 Γ ops F A' B | none=>false) else (A.order id).isNone
 | .seq a b=>cP a&&cP b
 | .cond _ a b=>cP a&&cP b
 | .block _ a=>cP a
 | .loop a=>cP a
 | .scope a=>cP a
 | _=>true
end
def tJ:Ex->Exit
 | .normal=> .normal
 | .exit id=> .exit id
 | .ret=> .ret
 | .goto l=> .goto l
section
variable {P:Program} {Γ:FuncId->Option FSig} {C:IV->List Nat->List (List IV)->Option (List IV)} {A:Ann} {w0:World} {ok0:O0}
theorem BT {R:Type} (hΓ:ak P Γ) (hC:COK P C) (hm:P.follows .mixedOrders=true) {id:Nat} {ops:Array Oper} {draw:Bool} (hok:cP Γ A (.region id ops draw)=true) {st:St} {k:St->Option R} {r:R} (hs:oh P Γ C (A.order id) ops st k=some r)
  {a:Act} {w:World} {ok:Nat->Prop} {mu:Mu} (hc:Cfg w0 ok0 w ok mu st a) {Q:Exit->Act->World->Prop}
  (hk: ∀(st':St) (a':Act) (w':World) (ok':Nat->Prop) (mu':Mu),k st'=some r->Cfg w0 ok0 w' ok' mu' st' a'->Step w ok mu st.h a w' ok' mu' st'.h a' (dsts ops.toList)->Q .normal a' w'):(Code.region id ops draw).wp P Q a w:=by
 cases draw with
 | true=>
   simp only [cP,if_true] at hok
   split at hok
   ·rename_i F A' B ho
    rw [ho] at hs
    exact R6 hΓ hC hm hok hs hc hk
   ·cases hok
 | false=>
   simp only [cP,Bool.false_eq_true,if_false,Option.isNone_iff_eq_none] at hok
   rw [hok] at hs
   exact Tk hΓ hC hs hc hk
theorem LI {fr':List PV} {w':World} {ok':Nat->Prop} {mu' mu2:Mu} {tmps:Array Value} (r':Fr w' ok' mu' fr' tmps) {lv:List IV}: ∀(L:List Nat) (i:Nat) (l:List IV) (fr:List PV),leaves fr' L=some l->(∀j,j < l.length->nth lv (i+j)=nth l j)->Fr w' ok' mu2 fr tmps->Fr w' ok' mu2 (sq lv L i fr) tmps
 | [],i,l,fr,_,_,r=>r
 | t::L,i,l,fr,hl,hn,r=>by
   simp only [leaves] at hl
   split at hl
   ·rename_i x l' hx hl'
    cases hl
    simp only [sq]
    refine LI r' L (i+1) l' _ hl' (fun j hj=> ?_) (r.upd fun v hv=> ?_)
    ·have:=hn (j+1) (by simp;omega)
     rw [show i+1+j=i+(j+1) by omega,this];rfl
    ·have h0:=hn 0 (by simp)
     rw [Nat.add_zero] at h0
     rw [h0]
     have:=r'.at hv
     rw [hx] at this
     cases this with | imm h=>exact .imm h
   ·cases hl
theorem Xr {e e':Ex} (h:tJ e=tJ e'):e=e':=by
 cases e<;>cases e'<;>simp [tJ] at h<;>first | rfl | (subst h;rfl)
theorem LR {x:Code} {e0:Ex} (ih: ∀(R:Type) (st:St) (K:Ex->St->Option R) (r:R),exec P Γ C A x R st K=some r-> ∀(a:Act) (w:World) (ok:Nat->Prop) (mu:Mu),Cfg w0 ok0 w ok mu st a-> ∀(Q:Exit->Act->World->Prop),
   (∀(e:Ex) (st':St) (a':Act) (w':World) (ok':Nat->Prop) (mu':Mu),K e st'=some r->Cfg w0 ok0 w' ok' mu' st' a'->Step w ok mu st.h a w' ok' mu' st'.h a' (writes x)->Q (tJ e) a' w')->x.wp P Q a w)
  {R:Type} {st:St} {K:Ex->St->Option R} {r:R} {a:Act} {w:World} {ok:Nat->Prop} {mu:Mu} (hc:Cfg w0 ok0 w ok mu st a) {vs0:List IV} {h1:List Ob} (hp:pack st (A.pick st.fr (au x)).1=some vs0) (hf:qK st.h (aM st (A.pick st.fr (au x)).1)=some h1)
  (hmt':jv st h1 (A.pick st.fr (au x)).1=true) (hks:XY (A.pick st.fr (au x))=true) {kk:Ex->St->Option SR} {ke:Nat} {vsE:List IV}
  (hit:iter rounds (fun vs=>exec P Γ C A x SR (unpack vs (A.pick st.fr (au x)).1 0 ⟨forget st.fr (writes x),(kill h1 (taken st (A.pick st.fr (au x)).1)).map ef⟩) kk) vs0=some (ke,vsE))
  (hk1: ∀st',kk e0 st'=(packed st' (A.pick st.fr (au x)).1).map .next) (hk2: ∀e st',e≠e0->kk e st'=(packed st' ((A.pick st.fr (au x)).2.getD ((jL x).idxOf e) [])).map (.done ((jL x).idxOf e)))
  (hsel:iA ke ((jL x).map fun e=>K e (unpack vsE ((A.pick st.fr (au x)).2.getD ((jL x).idxOf e) []) 0 ⟨forget st.fr (writes x),kill h1 (taken st (A.pick st.fr (au x)).1)⟩))=some r)
  {Q:Exit->Act->World->Prop} (hQ: ∀(e:Ex) (st':St) (a':Act) (w':World) (ok':Nat->Prop) (mu':Mu),K e st'=some r->Cfg w0 ok0 w' ok' mu' st' a'->Step w ok mu st.h a w' ok' mu' st'.h a' (writes x)->Q (tJ e) a' w')
  {RD:Nat->Act->World->Prop} (hRD: ∀n a w,x.wp P (fun e a' w'=>(e=tJ e0/\RD n a' w')\/(e≠tJ e0/\Q e a' w')) a w->RD (n+1) a w):RD rounds a w:=by
 generalize hL:(A.pick st.fr (au x)).1=L at*
 generalize hLs:(A.pick st.fr (au x)).2=Ls at*
 have hall: ∀o∈taken st L,isRw (getOb h1 o)=true:=by
  have:=hmt'
  simp only [jv,Bool.and_eq_true,List.all_eq_true] at this
  exact this.2
 have hfro:=dx hf
 have hbase: ∀o,(getOb (kill h1 (taken st L)) o).live=true->o∉taken st L/\getOb (kill h1 (taken st L)) o=getOb h1 o:=fun o ho=>by
  rw [j8] at ho ⊢
  by_cases e:o∈taken st L
  ·rw [if_pos e] at ho;cases ho
  ·rw [if_neg e];exact ⟨e,rfl⟩
 have hinvB:Inv w0 ok0 w ok mu (kill h1 (taken st L)):=hc.inv.less fun o ho=>by
  obtain ⟨_,e⟩:=hbase o ho
  rw [e] at ho ⊢
  rcases hfro.same o with e1 | ⟨hz,cs,m,e1,e2⟩ | ⟨s,z,m,e1,e2⟩
  ·rw [e1] at ho ⊢
   cases hx:getOb st.h o with
   | dead=>rw [hx] at ho;cases ho
   | box m cs=>exact .inr (.inl ⟨m,cs,rfl,m,rfl,fun h=>h⟩)
   | arr m s z=>exact .inr (.inr ⟨m,s,z,rfl,m,rfl,fun h=>h⟩)
  ·exact .inr (.inl ⟨m,cs,e1,.fz,e2,fun h=>by rw [e2] at h;cases h⟩)
  ·exact .inr (.inr ⟨m,s,z,e1,.fz,e2,fun h=>by rw [e2] at h;cases h⟩)
 have hlenB:(kill h1 (taken st L)).length=st.h.length:=by rw [dQ,hfro.len]
 have hfrB:Fr w ok mu (forget st.fr (writes x)) a.tmps:=hc.fr.forget _
 have hB0:Cfg w0 ok0 w ok mu ⟨forget st.fr (writes x),kill h1 (taken st L)⟩ a:=⟨hinvB,fun q hq=>hc.fresh q (by simpa [hlenB] using hq),hfrB⟩
 have hBL:Cfg w0 ok0 w ok mu ⟨forget st.fr (writes x),(kill h1 (taken st L)).map ef⟩ a:=⟨hinvB.same fun o ho=>by rw [iM] at ho ⊢;exact kY (by rw [<-iE];exact ho),fun q hq=>hc.fresh q (by simpa [hlenB] using hq),hfrB⟩
 have hW: ∀(t:Nat) (p:PV),t∈writes x->(forget st.fr (writes x))[t]? =some p->p= .undef:=fun t p=>Af _ _ t p
 have hks': ∀L'∈Ls,∀o∈rz L',o∈rz L:=fun L' hL' o ho=>by
  have h9:=List.all_eq_true.1 (List.all_eq_true.1 hks L' (by rw [hLs];exact hL')) o ho
  rw [hL] at h9
  simpa using h9
 have hKL: ∀o∈rz L,o < (kill h1 (taken st L)).length/\getOb (kill h1 (taken st L)) o= .dead/\ ∃pl,mu o=some pl:=fun o ho=>by
  have h9:=ph hp o ho
  have h8:=hall o h9
  refine ⟨by rw [dQ];exact iT (cN h8).1,by rw [j8,if_pos h9],TC hc hp o ho⟩
 have hKB: ∀o∈rz L,o < ((kill h1 (taken st L)).map ef).length/\getOb ((kill h1 (taken st L)).map ef) o= .dead/\ ∃pl,mu o=some pl:=fun o ho=>by
  obtain ⟨g1,g2,g3⟩:=hKL o ho
  exact ⟨by simpa using g1,by rw [iM,g2];rfl,g3⟩
 have hnL: ∀o,(getOb (kill h1 (taken st L)) o).live=true->o∉rz L:=fun o ho hin=>by
  rw [(hKL o hin).2.1] at ho;cases ho
 have hentry: ∃ok2 mu2,Cfg w0 ok0 w ok2 mu2 (unpack vs0 L 0 ⟨forget st.fr (writes x),(kill h1 (taken st L)).map ef⟩) a/\Later w ok mu w ok2 mu2:=
  Gj hBL hW hc (.refl _ _ _) (fun _ _=>rfl) rfl hp hf hmt' (fun o ho=>by
   rw [iM] at ho ⊢
   rw [iE] at ho
   obtain ⟨h2,h3⟩:=hbase o ho
   exact ⟨h2,by have:=kY ho;rwa [h3] at this ⊢⟩) hKB
 have hstayB:Stay st.h (kill h1 (taken st L)):=⟨by rw [hlenB];exact Nat.le_refl _,fun o ho hnr=>by
  have h2:=(gP hf).keep o ho hnr
  rw [j8,if_neg fun e=>by
   have:=hall o e
   rw [h2,hnr] at this;cases this]
  exact h2⟩
 have hrounds: ∀(n:Nat) (vs:List IV) (a1:Act) (w1:World) (ok1:Nat->Prop) (mu1:Mu),iter n (fun vs=>exec P Γ C A x SR (unpack vs L 0 ⟨forget st.fr (writes x),(kill h1 (taken st L)).map ef⟩) kk) vs=some (ke,vsE)->
   Cfg w0 ok0 w1 ok1 mu1 (unpack vs L 0 ⟨forget st.fr (writes x),(kill h1 (taken st L)).map ef⟩) a1->Later w ok mu w1 ok1 mu1->(∀t,t∉writes x->a1.tmps[t]? =a.tmps[t]?)->a1.tmps.size=a.tmps.size->a1.defers=a.defers->RD n a1 w1:=by
  intro n
  induction n with
  | zero=>intro vs a1 w1 ok1 mu1 hi;cases hi
  | succ n ihn=>
    intro vs a1 w1 ok1 mu1 hi hc1 hl1 hsame1 hsz1 hd1
    simp only [iter] at hi
    obtain ⟨sr,hsr,hnext⟩:=Option.bind_eq_some_iff.1 hi
    refine hRD n a1 w1 ?_
    obtain ⟨hnews1,hnews2⟩:=th vs L 0 ⟨forget st.fr (writes x),(kill h1 (taken st L)).map ef⟩
    refine ih SR _ _ sr hsr a1 w1 ok1 mu1 hc1 _ fun e st' a' w' ok' mu' hk hc' hst=> ?_
    have hl':Later w ok mu w' ok' mu':=hl1.trans hst.later
    have hsame': ∀t,t∉writes x->a'.tmps[t]? =a.tmps[t]? :=fun t ht=>(hst.same t ht).trans (hsame1 t ht)
    have hsz':a'.tmps.size=a.tmps.size:=hst.size.trans hsz1
    have hstill: ∀{L':List (Nat×Kd)} {h2:List Ob},qK st'.h (aM st' L')=some h2->jv st' h2 L'=true-> ∀o,(getOb (kill h1 (taken st L)) o).live=true->o∉taken st' L'/\getOb h2 o=ef (getOb (kill h1 (taken st L)) o):=by
     intro L' h2 hf2 hm2 o ho
     have hol:o < (kill h1 (taken st L)).length:=iT ho
     have e1:getOb (unpack vs L 0 ⟨forget st.fr (writes x),(kill h1 (taken st L)).map ef⟩).h o=ef (getOb (kill h1 (taken st L)) o):=by
      rw [hnews2 o (by simpa using hol) (hnL o ho),iM]
     have hol2:o < (unpack vs L 0 ⟨forget st.fr (writes x),(kill h1 (taken st L)).map ef⟩).h.length:=by
      simp only [List.length_map] at hnews1;omega
     have e2:=hst.stay.keep o hol2 (by rw [e1];exact xy _)
     have e3:=(gP hf2).keep o (Nat.lt_of_lt_of_le hol2 hst.stay.len) (by rw [e2,e1];exact xy _)
     have e4:getOb h2 o=ef (getOb (kill h1 (taken st L)) o):=by rw [e3,e2,e1]
     refine ⟨fun hin=> ?_,e4⟩
     simp only [jv,Bool.and_eq_true,List.all_eq_true] at hm2
     have:=hm2.2 o hin
     rw [e4,xy] at this;cases this
    have unpacked: ∀{L':List (Nat×Kd)} {vs':List IV},packed st' L'=some vs'-> ∃h2,pack st' L'=some vs'/\qK st'.h (aM st' L')=some h2/\jv st' h2 L'=true:=by
     intro L' vs' h
     unfold packed at h
     split at h
     ·rename_i q1 q2
      split at h
      ·cases h;exact ⟨_,q1,q2,‹_›⟩
      ·cases h
     ·cases h
    have hkE: ∀(n:Nat) (o:Nat),o∈rz (Ls.getD n [])->o∈rz L:=fun n o ho=>by
     rw [List.getD_eq_getElem?_getD] at ho
     cases hx:Ls[n]? with
     | none=>rw [hx] at ho;cases ho
     | some L'=>rw [hx] at ho;exact hks' L' (List.mem_of_getElem? hx) o ho
    have leave: ∀(e:Ex),(packed st' (Ls.getD ((jL x).idxOf e) [])).map (SR.done ((jL x).idxOf e))=some sr->Q (tJ e) a' w':=by
     intro e hk
     obtain ⟨vs',hk1,rfl⟩:=Option.map_eq_some_iff.1 hk
     simp only [Option.some.injEq,Prod.mk.injEq] at hnext
     obtain ⟨rfl,rfl⟩:=hnext
     obtain ⟨h2,g1,g2,g3⟩:=unpacked hk1
     obtain ⟨ok2,mu2,c2,l2⟩:=Gj hB0 hW hc' hl' hsame' hsz' g1 g2 g3 (fun o ho=>by
      obtain ⟨q1,q2⟩:=hstill g2 g3 o ho
      exact ⟨q1,by rw [q2];exact (kY ho).symm⟩) (fun o ho=>hKL o (hkE _ o ho))
     unfold iA at hsel
     rw [List.getD_eq_getElem?_getD,List.getElem?_map] at hsel
     by_cases hin:e∈jL x
     ·have hlt:=List.idxOf_lt_length_of_mem hin
      rw [List.getElem?_eq_getElem hlt,List.getElem_idxOf hlt] at hsel
      simp only [Option.map_some,Option.getD_some] at hsel
      obtain ⟨hn1,hn2⟩:=th vs' (Ls.getD ((jL x).idxOf e) []) 0 ⟨forget st.fr (writes x),kill h1 (taken st L)⟩
      exact hQ e _ a' w' ok2 mu2 hsel c2 ⟨l2,⟨Nat.le_trans hstayB.len hn1,fun o ho hnr=>by
       rw [hn2 o (Nat.lt_of_lt_of_le ho hstayB.len) (fun hin=>by
        have h8:=hall o (ph hp o (hkE _ o hin))
        rw [(gP hf).keep o ho hnr,hnr] at h8;cases h8)]
       exact hstayB.keep o ho hnr⟩,hst.defers.trans hd1,hsame',hsz'⟩
     ·rw [List.getElem?_eq_none (by rw [List.idxOf_eq_length hin];exact Nat.le_refl _)] at hsel
      cases hsel
    by_cases he:e=e0
    ·subst he
     rw [hk1] at hk
     obtain ⟨vs',hk1',rfl⟩:=Option.map_eq_some_iff.1 hk
     simp only at hnext
     obtain ⟨h2,g1,g2,g3⟩:=unpacked hk1'
     obtain ⟨ok2,mu2,c2,l2⟩:=Gj hBL hW hc' hl' hsame' hsz' g1 g2 g3 (fun o ho=>by
      rw [iM] at ho ⊢
      rw [iE] at ho
      obtain ⟨q1,q2⟩:=hstill g2 g3 o ho
      exact ⟨q1,by
       rw [q2]
       have:=kY ho
       exact ⟨rfl,by
        rcases this.2 with ⟨m,m',cs,e1,e2⟩ | ⟨m,m',s,z,e1,e2⟩
        ·exact .inl ⟨m,m,cs,e1,e1⟩
        ·exact .inr ⟨m,m,s,z,e1,e1⟩⟩⟩) hKB
     refine .inl ⟨rfl,?_⟩
     exact ihn vs' a' w' ok2 mu2 hnext c2 l2 hsame' hsz' (hst.defers.trans hd1)
    ·rw [hk2 e st' he] at hk
     refine .inr ⟨fun h=>he (Xr h),leave e hk⟩
 obtain ⟨ok2,mu2,c2,l2⟩:=hentry
 exact hrounds rounds vs0 a w ok2 mu2 hit c2 l2 (fun _ _=>rfl) rfl rfl
theorem Vn {x:Code} (ih: ∀(R:Type) (st:St) (K:Ex->St->Option R) (r:R),exec P Γ C A x R st K=some r-> ∀(a:Act) (w:World) (ok:Nat->Prop) (mu:Mu),Cfg w0 ok0 w ok mu st a-> ∀(Q:Exit->Act->World->Prop),
   (∀(e:Ex) (st':St) (a':Act) (w':World) (ok':Nat->Prop) (mu':Mu),K e st'=some r->Cfg w0 ok0 w' ok' mu' st' a'->Step w ok mu st.h a w' ok' mu' st'.h a' (writes x)->Q (tJ e) a' w')->x.wp P Q a w):
  ∀(n:Nat) (R:Type) (st:St) (K:Ex->St->Option R) (r:R),Zr (exec P Γ C A x R) n st K=some r-> ∀(a:Act) (w:World) (ok:Nat->Prop) (mu:Mu),Cfg w0 ok0 w ok mu st a-> ∀(Q:Exit->Act->World->Prop),
   (∀(e:Ex) (st':St) (a':Act) (w':World) (ok':Nat->Prop) (mu':Mu),K e st'=some r->Cfg w0 ok0 w' ok' mu' st' a'->Step w ok mu st.h a w' ok' mu' st'.h a' (writes x)->Q (tJ e) a' w')->Code.rounds P x Q n a w:=by
 intro n
 induction n with
 | zero=>intro R st K r hs;cases hs
 | succ n ihn=>
   intro R st K r hs a w ok mu hc Q hQ
   rw [rounds_succ]
   simp only [Zr] at hs
   refine ih R st _ r hs a w ok mu hc _ fun e st' a' w' ok' mu' hk hc' hst=> ?_
   cases e with
   | normal=>exact ihn R st' K r hk a' w' ok' mu' hc' Q fun e st2 a2 w2 ok2 mu2 hk2 hc2 hst2=>hQ e st2 a2 w2 ok2 mu2 hk2 hc2 ((hst.trans hst2).sub fun t ht=>by rcases List.mem_append.1 ht with h | h<;>exact h)
   | exit id=>exact hQ (.exit id) st' a' w' ok' mu' hk hc' hst
   | ret=>exact hQ .ret st' a' w' ok' mu' hk hc' hst
   | goto l=>exact hQ (.goto l) st' a' w' ok' mu' hk hc' hst
theorem gl (hΓ:ak P Γ) (hC:COK P C) (hm:P.follows .mixedOrders=true): ∀(c:Code),cP Γ A c=true-> ∀(R:Type) (st:St) (K:Ex->St->Option R) (r:R),exec P Γ C A c R st K=some r-> ∀(a:Act) (w:World) (ok:Nat->Prop) (mu:Mu),Cfg w0 ok0 w ok mu st a-> ∀(Q:Exit->Act->World->Prop),
  (∀(e:Ex) (st':St) (a':Act) (w':World) (ok':Nat->Prop) (mu':Mu),K e st'=some r->Cfg w0 ok0 w' ok' mu' st' a'->Step w ok mu st.h a w' ok' mu' st'.h a' (writes c)->Q (tJ e) a' w')->c.wp P Q a w:=by
 intro c
 induction c with
 | skip=>intro _ R st K r hs a w ok mu hc Q hQ;exact wp_skip (hQ .normal st a w ok mu hs hc (.refl _ _ _ _ _ _))
 | label l=>intro _ R st K r hs a w ok mu hc Q hQ;exact wp_label (hQ .normal st a w ok mu hs hc (.refl _ _ _ _ _ _))
 | ret=>intro _ R st K r hs a w ok mu hc Q hQ;exact wp_ret (hQ .ret st a w ok mu hs hc (.refl _ _ _ _ _ _))
 | goto l=>intro _ R st K r hs a w ok mu hc Q hQ;exact wp_goto (hQ (.goto l) st a w ok mu hs hc (.refl _ _ _ _ _ _))
 | exit id=>intro _ R st K r hs a w ok mu hc Q hQ;exact wp_exit (hQ (.exit id) st a w ok mu hs hc (.refl _ _ _ _ _ _))
 | seq x y ihx ihy=>
   intro hok R st K r hs a w ok mu hc Q hQ
   simp only [cP,Bool.and_eq_true] at hok
   simp only [exec] at hs
   refine wp_seq (ihx hok.1 R st _ r hs a w ok mu hc _ fun e st' a' w' ok' mu' hk hc' hst=> ?_)
   cases e with
   | normal=>exact ihy hok.2 R st' K r hk a' w' ok' mu' hc' Q fun e st2 a2 w2 ok2 mu2 hk2 hc2 hst2=>hQ e st2 a2 w2 ok2 mu2 hk2 hc2 (hst.trans hst2)
   | exit id=>exact hQ (.exit id) st' a' w' ok' mu' hk hc' (hst.sub fun t ht=>List.mem_append_left _ ht)
   | ret=>exact hQ .ret st' a' w' ok' mu' hk hc' (hst.sub fun t ht=>List.mem_append_left _ ht)
   | goto l=>exact hQ (.goto l) st' a' w' ok' mu' hk hc' (hst.sub fun t ht=>List.mem_append_left _ ht)
 | block id x ih=>
   intro hok R st K r hs a w ok mu hc Q hQ
   simp only [cP] at hok
   simp only [exec] at hs
   refine wp_block (ih hok R st _ r hs a w ok mu hc _ fun e st' a' w' ok' mu' hk hc' hst=> ?_)
   cases e with
   | normal=>exact hQ .normal st' a' w' ok' mu' hk hc' hst
   | exit j=>
     simp only at hk
     simp only [tJ,Exit.inBlock]
     split at hk
     ·rename_i e;rw [if_pos e];exact hQ .normal st' a' w' ok' mu' hk hc' hst
     ·rename_i e;rw [if_neg e];exact hQ (.exit j) st' a' w' ok' mu' hk hc' hst
   | ret=>exact hQ .ret st' a' w' ok' mu' hk hc' hst
   | goto l=>exact hQ (.goto l) st' a' w' ok' mu' hk hc' hst
 | scope x ih=>
   intro hok R st K r hs a w ok mu hc Q hQ
   simp only [cP] at hok
   simp only [exec] at hs
   refine wp_scope_straight (ih hok R st _ r hs a w ok mu hc _ fun e st' a' w' ok' mu' hk hc' hst=> ?_)
   cases e with
   | goto l=>cases hk
   | normal=>exact hQ .normal st' a' w' ok' mu' hk hc' hst
   | exit j=>exact hQ (.exit j) st' a' w' ok' mu' hk hc' hst
   | ret=>exact hQ .ret st' a' w' ok' mu' hk hc' hst
 | cond x y z ihy ihz=>
   intro hok R st K r hs a w ok mu hc Q hQ
   simp only [cP,Bool.and_eq_true] at hok
   simp only [exec] at hs
   split at hs
   ·rename_i v hv
    have hr:=hc.fr.ev x
    rw [hv] at hr
    rcases kQ hs with ⟨rfl,h1⟩ | ⟨rfl,h1⟩
    ·refine wp_cond_true (by generalize a.eval x=u at hr;cases hr with | imm hr=>cases hr;rfl) (ihy hok.1 R st K r h1 a w ok mu hc Q fun e st' a' w' ok' mu' hk hc' hst=>hQ e st' a' w' ok' mu' hk hc' (hst.sub fun t ht=>List.mem_append_left _ ht))
    ·refine wp_cond_false (by generalize a.eval x=u at hr;cases hr with | imm hr=>cases hr;rfl) (ihz hok.2 R st K r h1 a w ok mu hc Q fun e st' a' w' ok' mu' hk hc' hst=>hQ e st' a' w' ok' mu' hk hc' (hst.sub fun t ht=>List.mem_append_right _ ht))
   ·cases hs
 | region id ops draw=>
   intro hok R st K r hs a w ok mu hc Q hQ
   simp only [exec] at hs
   split at hs
   ·exact BT hΓ hC hm hok hs hc fun st' a' w' ok' mu' hk hc' hst=>hQ .normal st' a' w' ok' mu' hk hc' hst
   ·rename_i L hj
    obtain ⟨lv,h1,h2⟩:=Option.bind_eq_some_iff.1 hs
    have hlock:Cfg w0 ok0 w ok mu ⟨st.fr,st.h.map ef⟩ a:=⟨hc.inv.same fun o ho=>by rw [iM] at ho ⊢;exact kY (by rw [<-iE];exact ho),by simpa using hc.fresh,hc.fr⟩
    refine BT hΓ hC hm hok h1 hlock fun st' a' w' ok' mu' hk hc' hst=> ?_
    have hlt: ∀{o pl},mu o=some pl->o < st.h.length:=fun {o pl} ho=>by
     rcases Nat.lt_or_ge o st.h.length with h1 | h1
     ·exact h1
     ·rw [hc.fresh o h1] at ho;cases ho
    have hstay: ∀o,o < st.h.length->getOb st'.h o=ef (getOb st.h o):=fun o ho=>by
     rw [hst.stay.keep o (by simpa using ho) (by rw [iM];exact xy _),iM]
    have hl0:Later w ok mu w' ok' mu:=⟨hst.later.keeps,fun _ _ h=>h,hst.later.sizes⟩
    have hdom: ∀o,mu o≠none->mu o=mu' o:=fun o ho=>by
     cases hx:mu o with
     | none=>exact absurd hx ho
     | some pl=>exact (hst.later.mu o pl hx).symm
    have hinv:Inv w0 ok0 w' ok' mu st.h:=by
     have i':=hc'.inv
     refine ⟨i'.below,i'.okw,i'.okb,fun o pl ho=> ?_,fun o pl b bs ho hb=> ?_,fun o o' pl pl' b bs bs' ho ho' hb hb' h3 h4=> ?_⟩
     ·have hz:=i'.ob o pl (hst.later.mu o pl ho)
      rw [hstay o (hlt ho)] at hz
      have hb0:=hc.inv.ob o pl ho
      cases hx:getOb st.h o with
      | dead=>trivial
      | arr m s z=>rw [hx] at hz;cases m<;>exact hz
      | box m cs=>
        rw [hx] at hz hb0
        have hz':ObOk w' ok' mu' pl (.box m cs):=by cases m<;>exact hz
        obtain ⟨b,bs,cc,T,g1,g2,g3,g4⟩:=hz'
        obtain ⟨b',bs',cc',T',k1,k2,k3,k4⟩:=hb0
        refine ⟨b,bs,cc,T,g1,g2,g3,fun j p hj=> ?_⟩
        obtain ⟨v,g5,g6⟩:=g4 j p hj
        obtain ⟨v',k5,k6⟩:=k4 j p hj
        exact ⟨v,g5,k6.restrict hdom g6⟩
     ·obtain ⟨g1,g2,g3⟩:=i'.own o pl b bs (hst.later.mu o pl ho) hb
      refine ⟨g1,g2,fun hlv hnf=> ?_⟩
      rw [hstay o (hlt ho)] at g3
      exact g3 (by rw [iE];exact hlv) (by rw [(kY hlv).1];exact hnf)
     ·refine i'.inj o o' pl pl' b bs bs' (hst.later.mu o pl ho) (hst.later.mu o' pl' ho') hb hb' ?_ ?_
      ·rw [hstay o (hlt ho),iE];exact h3
      ·rw [hstay o' (hlt ho'),iE];exact h4
    refine hQ .normal _ a' w' ok' mu h2 ⟨hinv,hc.fresh,?_⟩ ⟨hl0,.refl _,hst.defers,hst.same,hst.size⟩
    exact LI hc'.fr L 0 lv _ hk (fun j _=>by rw [Nat.zero_add]) (hc.fr.turned hl0 hst.same hst.size)
 | loop x ih=>
   intro hok R st K r hs a w ok mu hc Q hQ
   simp only [cP] at hok
   simp only [exec] at hs
   split at hs
   ·exact wp_loop_rounds _ (Vn (ih hok) _ R st K r hs a w ok mu hc Q hQ)
   split at hs
   ·rename_i vs0 h1 hp hf
    split at hs
    ·cases hs
    ·rename_i hmt
     obtain ⟨⟨ke,vsE⟩,hit,hsel⟩:=Option.bind_eq_some_iff.1 hs
     refine wp_loop_rounds rounds (LR (A:=A) (e0:= .normal) (ih hok) hc hp hf (by simp only [Bool.not_eq_false,Bool.and_eq_true] at hmt;exact hmt.1) (by simp only [Bool.not_eq_false,Bool.and_eq_true] at hmt;exact hmt.2) hit (fun st'=>rfl) (fun e st' he=> ?_) hsel hQ (RD:=Code.rounds P x Q) fun n a w h=> ?_)
     ·cases e with
      | normal=>exact absurd rfl he
      | _=>rfl
     ·rw [rounds_succ]
      refine wp_mono h fun e a w h=> ?_
      rcases h with ⟨rfl,h⟩ | ⟨he,h⟩
      ·exact h
      ·cases e with
       | normal=>exact absurd rfl he
       | _=>exact h
   ·cases hs
 | _=>intro _ R st K r hs;simp [exec] at hs
def FE (P:Program) (rest:Code) (l:Nat) (Q:Exit->Act->World->Prop):Nat->Exit->Act->World->Prop
 | 0=>fun e a w=>match e with | .goto _=>False | e=>Q e a w
 | n+1=>fun e a w=>match e with | .goto l'=>l'=l/\rest.wp P (FE P rest l Q n) a w | e=>Q e a w
theorem vr {rest:Code} {l:Nat} {Q:Exit->Act->World->Prop} {a:Act} {w:World}: ∀(n:Nat) {e:Exit},(∀l',e≠ .goto l')->Q e a w->FE P rest l Q n e a w
 | 0,e,he,h=>by cases e<;>first | exact absurd rfl (he _) | exact h
 | n+1,e,he,h=>by cases e<;>first | exact absurd rfl (he _) | exact h
theorem JB {body rest:Code} {l:Nat} (hf:findLabel body l=some rest) {Q:Exit->Act->World->Prop} {a:Act} {w:World} (n:Nat) (h:body.wp P (FE P rest l Q n) a w):(Code.scope body).wp P Q a w:=by
 intro b k cs
 have key: ∀(n:Nat) (c:Code) (a:Act) (w:World),c.wp P (FE P rest l Q n) a w-> ∃e a' w',Q e a' w'/\Arrives P (lone (b.at a (.code c:: .inScope body::k)) cs w) b k cs e a' w':=by
  intro n
  induction n with
  | zero=>
    intro c a w h
    obtain ⟨e,a1,w1,hq,harr⟩:=h b (.inScope body::k) cs
    cases e with
    | goto l=>exact hq.elim
    | normal=>exact ⟨.normal,a1,w1,hq,Steps.trans harr (.one step_inScope)⟩
    | exit id=>exact ⟨.exit id,a1,w1,hq,fun k' hk=>harr k' (by simp [exitTo,hk])⟩
    | ret=>exact ⟨_,a1,w1,hq,harr⟩
    | panic ch=>exact ⟨_,a1,w1,hq,harr⟩
    | outgrown=>exact ⟨_,a1,w1,hq,harr⟩
  | succ n ih=>
    intro c a w h
    obtain ⟨e,a1,w1,hq,harr⟩:=h b (.inScope body::k) cs
    cases e with
    | goto l'=>
      obtain ⟨rfl,hr⟩:=hq
      obtain ⟨e2,a2,w2,hq2,harr2⟩:=ih rest a1 w1 hr
      exact ⟨e2,a2,w2,hq2,.of_steps (harr _ (by simp [gotoIn,hf])) harr2⟩
    | normal=>exact ⟨.normal,a1,w1,hq,Steps.trans harr (.one step_inScope)⟩
    | exit id=>exact ⟨.exit id,a1,w1,hq,fun k' hk=>harr k' (by simp [exitTo,hk])⟩
    | ret=>exact ⟨_,a1,w1,hq,harr⟩
    | panic ch=>exact ⟨_,a1,w1,hq,harr⟩
    | outgrown=>exact ⟨_,a1,w1,hq,harr⟩
 obtain ⟨e,a',w',hq,harr⟩:=key n body a w h
 exact ⟨e,a',w',hq,.of_steps (.one step_scope) harr⟩
def V8:Code->Option Nat
 | .seq a b=>match a with | .label l=>some l | _=>V8 b
 | _=>none
def pj (l:Nat):Code->Bool
 | .seq a b=>match a with | .label l'=>decide (l'=l) | a=>(findLabel a l).isNone&&pj l b
 | _=>false
def Fz (l:Nat) (rest:Code):Code->Prop
 | .seq a b=>match a with | .label l'=>l'=l/\rest= .seq .skip b | _=>Fz l rest b
 | _=>True
theorem IW {l:Nat}: ∀(c:Code),pj l c=true-> ∃rest,findLabel c l=some rest/\Fz l rest c:=by
 intro c
 induction c with
 | seq a b _ ihb=>
   intro h
   by_cases ha: ∃l',a= .label l'
   ·obtain ⟨l',rfl⟩:=ha
    simp only [pj,decide_eq_true_eq] at h
    subst h
    exact ⟨.seq .skip b,by simp [findLabel],rfl,rfl⟩
   ·have h':(findLabel a l).isNone=true/\pj l b=true:=by
     cases a<;>first | exact absurd ⟨_,rfl⟩ ha | (simpa [pj] using h)
    obtain ⟨rest,h1,h2⟩:=ihb h'.2
    refine ⟨rest,?_,?_⟩
    ·simp only [findLabel]
     rw [Option.isNone_iff_eq_none.1 h'.1]
     exact h1
    ·cases a<;>first | exact absurd ⟨_,rfl⟩ ha | exact h2
 | _=>intro h;simp [pj] at h
theorem RT (hΓ:ak P Γ) (hC:COK P C) (hm:P.follows .mixedOrders=true) {l:Nat} {rest:Code} {Q:Exit->Act->World->Prop}: ∀(c:Code),cP Γ A c=true->Fz l rest c-> ∀(R:Type) (st:St) (K:Ex->St->Option R) (r:R),cy P Γ C A c R st K=some r->(∀l st',K (.goto l) st'=none)->
  ∀(a:Act) (w:World) (ok:Nat->Prop) (mu:Mu),Cfg w0 ok0 w ok mu st a->(∀(e:Ex) (st':St) (a':Act) (w':World) (ok':Nat->Prop) (mu':Mu),K e st'=some r->Cfg w0 ok0 w' ok' mu' st' a'->Step w ok mu st.h a w' ok' mu' st'.h a' (writes c)->Q (tJ e) a' w')->c.wp P (FE P rest l Q rounds) a w:=by
 intro c
 have plain: ∀(c:Code),cP Γ A c=true-> ∀(R:Type) (st:St) (K:Ex->St->Option R) (r:R),exec P Γ C A c R st K=some r->(∀l st',K (.goto l) st'=none)->
   ∀(a:Act) (w:World) (ok:Nat->Prop) (mu:Mu),Cfg w0 ok0 w ok mu st a->(∀(e:Ex) (st':St) (a':Act) (w':World) (ok':Nat->Prop) (mu':Mu),K e st'=some r->Cfg w0 ok0 w' ok' mu' st' a'->Step w ok mu st.h a w' ok' mu' st'.h a' (writes c)->Q (tJ e) a' w')->c.wp P (FE P rest l Q rounds) a w:=by
  intro c hok R st K r hs hK a w ok mu hc hQ
  refine gl hΓ hC hm c hok R st K r hs a w ok mu hc _ fun e st' a' w' ok' mu' hk hc' hst=> ?_
  have h:=hQ e st' a' w' ok' mu' hk hc' hst
  cases e with
  | goto l'=>rw [hK] at hk;cases hk
  | normal=>exact vr _ (fun _ h=>by cases h) h
  | exit j=>exact vr _ (fun _ h=>by cases h) h
  | ret=>exact vr _ (fun _ h=>by cases h) h
 induction c with
 | seq x y _ ihy=>
   intro hok hch R st K r hs hK a w ok mu hc hQ
   simp only [cP,Bool.and_eq_true] at hok
   by_cases hx: ∃l',x= .label l'
   ·obtain ⟨l',rfl⟩:=hx
    obtain ⟨rfl,rfl⟩:=hch
    refine wp_seq (wp_label ?_)
    show y.wp P _ a w
    have hQ': ∀(e:Ex) (st':St) (a':Act) (w':World) (ok':Nat->Prop) (mu':Mu),K e st'=some r->Cfg w0 ok0 w' ok' mu' st' a'->Step w ok mu st.h a w' ok' mu' st'.h a' (writes y)->Q (tJ e) a' w':=fun e st' a' w' ok' mu' hk hc' hst=>hQ e st' a' w' ok' mu' hk hc' (hst.sub fun t ht=>List.mem_append_right _ ht)
    simp only [cy] at hs
    split at hs
    ·unfold Hs at hs
     simp only at hs
     split at hs
     ·rename_i vs0 h1 hp hf
      split at hs
      ·cases hs
      ·rename_i hmt
       obtain ⟨⟨ke,vsE⟩,hit,hsel⟩:=Option.bind_eq_some_iff.1 hs
       refine LR (A:=A) (e0:= .goto l') (fun R st K r=>gl hΓ hC hm y hok.2 R st K r) hc hp hf (by simp only [Bool.not_eq_false,Bool.and_eq_true] at hmt;exact hmt.1) (by simp only [Bool.not_eq_false,Bool.and_eq_true] at hmt;exact hmt.2) hit (fun st'=>by simp) (fun e st' he=>by simp [he]) hsel
        (Q:=fun e a w=>match e with | .goto _=>False | e=>Q e a w) (fun e st' a' w' ok' mu' hk hc' hst=> ?_) (RD:=fun n a w=>y.wp P (FE P (.seq .skip y) l' Q n) a w) fun n a w h=> ?_
       ·have h:=hQ' e st' a' w' ok' mu' hk hc' hst
        cases e with
        | goto l'=>rw [hK] at hk;cases hk
        | normal=>exact h
        | exit j=>exact h
        | ret=>exact h
       ·refine wp_mono h fun e a w h=> ?_
        rcases h with ⟨rfl,h⟩ | ⟨he,h⟩
        ·exact ⟨rfl,wp_seq (wp_skip h)⟩
        ·cases e with
         | goto l2=>exact h.elim
         | _=>exact h
     ·cases hs
    ·exact plain y hok.2 R st K r hs hK a w ok mu hc hQ'
   ·have hs':exec P Γ C A x R st (fun e st'=>match e with | .normal=>cy P Γ C A y R st' K | e=>K e st')=some r:=by
     cases x<;>first | exact absurd ⟨_,rfl⟩ hx | exact hs
    have hch':Fz l rest y:=by
     cases x<;>first | exact absurd ⟨_,rfl⟩ hx | exact hch
    refine wp_seq (gl hΓ hC hm x hok.1 R st _ r hs' a w ok mu hc _ fun e st' a' w' ok' mu' hk hc' hst=> ?_)
    cases e with
    | normal=>exact ihy hok.2 hch' R st' K r hk hK a' w' ok' mu' hc' fun e st2 a2 w2 ok2 mu2 hk2 hc2 hst2=>hQ e st2 a2 w2 ok2 mu2 hk2 hc2 (hst.trans hst2)
    | goto l'=>simp only at hk;rw [hK] at hk;cases hk
    | exit j=>exact vr _ (fun _ h=>by cases h) (hQ (.exit j) st' a' w' ok' mu' hk hc' (hst.sub fun t ht=>List.mem_append_left _ ht))
    | ret=>exact vr _ (fun _ h=>by cases h) (hQ .ret st' a' w' ok' mu' hk hc' (hst.sub fun t ht=>List.mem_append_left _ ht))
 | _=>intro hok _ R st K r hs hK a w ok mu hc hQ;exact plain _ hok R st K r hs hK a w ok mu hc hQ
def TR:Code->Bool
 | .seq _ b=>TR b
 | .scope b=>if (jL b).any VV then (match V8 b with | some l=>pj l b | none=>false) else true
 | _=>true
def rq (Γ:FuncId->Option FSig) (A:Ann) (c:Code):Bool:=cP Γ A c&&TR c
theorem ng (hΓ:ak P Γ) (hC:COK P C) (hm:P.follows .mixedOrders=true): ∀(c:Code) (hok:rq Γ A c=true) (R:Type) (st:St) (K:Ex->St->Option R) (r:R) (hs:de P Γ C A c R st K=some r) (hK: ∀l st',K (.goto l) st'=none) (a:Act) (w:World) (ok:Nat->Prop) (mu:Mu) (hc:Cfg w0 ok0 w ok mu st a) (Q:Exit->Act->World->Prop)
  (hQ: ∀(e:Ex) (st':St) (a':Act) (w':World) (ok':Nat->Prop) (mu':Mu),K e st'=some r->Cfg w0 ok0 w' ok' mu' st' a'->Step w ok mu st.h a w' ok' mu' st'.h a' (writes c)->Q (tJ e) a' w'),c.wp P Q a w:=by
 intro c
 induction c with
 | seq x y _ ihy=>
   intro hok R st K r hs hK a w ok mu hc Q hQ
   simp only [rq,cP,TR,Bool.and_eq_true] at hok
   simp only [de] at hs
   refine wp_seq (gl hΓ hC hm x hok.1.1 R st _ r hs a w ok mu hc _ fun e st' a' w' ok' mu' hk hc' hst=> ?_)
   cases e with
   | normal=>exact ihy (by simp only [rq,Bool.and_eq_true];exact ⟨hok.1.2,hok.2⟩) R st' K r hk hK a' w' ok' mu' hc' Q fun e st2 a2 w2 ok2 mu2 hk2 hc2 hst2=>hQ e st2 a2 w2 ok2 mu2 hk2 hc2 (hst.trans hst2)
   | goto l'=>simp only at hk;rw [hK] at hk;cases hk
   | exit j=>exact hQ (.exit j) st' a' w' ok' mu' hk hc' (hst.sub fun t ht=>List.mem_append_left _ ht)
   | ret=>exact hQ .ret st' a' w' ok' mu' hk hc' (hst.sub fun t ht=>List.mem_append_left _ ht)
 | scope b _=>
   intro hok R st K r hs hK a w ok mu hc Q hQ
   simp only [rq,Bool.and_eq_true] at hok
   obtain ⟨hok,htop⟩:=hok
   simp only [de] at hs
   split at hs
   ·rename_i hg
    simp only [TR,hg,if_true] at htop
    split at htop
    ·rename_i l hl
     obtain ⟨rest,hf,hch⟩:=IW b htop
     exact JB hf rounds (RT hΓ hC hm b hok hch R st K r hs hK a w ok mu hc hQ)
    ·cases htop
   ·exact gl hΓ hC hm _ hok R st K r hs a w ok mu hc Q hQ
 | _=>
   intro hok R st K r hs hK a w ok mu hc Q hQ
   simp only [rq,Bool.and_eq_true] at hok
   exact gl hΓ hC hm _ hok.1 R st K r hs a w ok mu hc Q hQ
end
end Go.AM
namespace Go.AM
open Go.RowKit
section
variable {P:Program} {Γ:FuncId->Option FSig} {C:IV->List Nat->List (List IV)->Option (List IV)} {A:Ann} {ops:Array Oper} {R:Type}
theorem tG {k:St->Option R} {r:R}: ∀(l:List Oper) (st:St),jh P Γ C ops l st k=some r-> ∃st',k st'=some r
 | [],st,h=>⟨st,h⟩
 | o::l,st,h=>by
   simp only [jh] at h
   obtain ⟨b,_,hc⟩:=cp h
   rcases hc with ⟨_,p,h',_,h2⟩ | ⟨_,h2⟩
   ·exact tG l _ h2
   ·exact tG l _ h2
theorem ua {ok:Oper->List PV->Bool} {k:St->Option R} {r:R}: ∀(l:List Oper) (st:St),oC P Γ C ok ops l st k=some r-> ∃st',k st'=some r
 | [],st,h=>⟨st,h⟩
 | o::l,st,h=>by
   simp only [oC] at h
   split at h
   ·obtain ⟨b,_,hc⟩:=cp h
    rcases hc with ⟨_,p,h',_,h2⟩ | ⟨_,h2⟩
    ·exact ua l _ h2
    ·exact ua l _ h2
   ·cases h
theorem qJ {ok:Oper->List PV->Bool} {k:St->Option R} {r:R}: ∀(l:List Oper) (st:St),nk P Γ C ok ops l st k=some r-> ∃st',k st'=some r
 | [],st,h=>⟨st,h⟩
 | o::l,st,h=>by
   simp only [nk] at h
   split at h
   ·split at h
    ·exact qJ l _ h
    ·cases h
   ·split at h
    ·obtain ⟨b,_,hc⟩:=cp h
     rcases hc with ⟨_,p,h',_,h2⟩ | ⟨_,h2⟩
     ·exact qJ l _ h2
     ·exact qJ l _ h2
    ·cases h
theorem RI {ord:Option (List Nat×List Nat×List Nat)} {k:St->Option R} {r:R} {st:St} (h:oh P Γ C ord ops st k=some r): ∃st',k st'=some r:=by
 unfold oh at h
 split at h
 ·exact tG _ _ h
 ·obtain ⟨st',h2⟩:=ua _ _ h
  obtain ⟨st2,h3⟩:=qJ _ _ h2
  obtain ⟨st3,h4⟩:=ua _ _ h3
  exact ⟨_,h4⟩
theorem o6: ∀(c:Code) (R:Type) (st:St) (K:Ex->St->Option R) (r:R),exec P Γ C A c R st K=some r-> ∃e st',K e st'=some r:=by
 intro c
 induction c with
 | skip=>intro R st K r h;exact ⟨_,_,h⟩
 | label l=>intro R st K r h;exact ⟨_,_,h⟩
 | ret=>intro R st K r h;exact ⟨_,_,h⟩
 | exit id=>intro R st K r h;exact ⟨_,_,h⟩
 | goto l=>intro R st K r h;exact ⟨_,_,h⟩
 | seq x y ihx ihy=>
   intro R st K r h
   simp only [exec] at h
   obtain ⟨e,st',h2⟩:=ihx R st _ r h
   cases e with
   | normal=>exact ihy R st' K r h2
   | exit id=>exact ⟨_,_,h2⟩
   | ret=>exact ⟨_,_,h2⟩
   | goto l=>exact ⟨_,_,h2⟩
 | block id x ih=>
   intro R st K r h
   simp only [exec] at h
   obtain ⟨e,st',h2⟩:=ih R st _ r h
   cases e with
   | normal=>exact ⟨_,_,h2⟩
   | exit j=>simp only at h2;split at h2<;>exact ⟨_,_,h2⟩
   | ret=>exact ⟨_,_,h2⟩
   | goto l=>exact ⟨_,_,h2⟩
 | scope x ih=>
   intro R st K r h
   simp only [exec] at h
   obtain ⟨e,st',h2⟩:=ih R st _ r h
   cases e with
   | goto l=>cases h2
   | _=>exact ⟨_,_,h2⟩
 | cond x y z ihy ihz=>
   intro R st K r h
   simp only [exec] at h
   split at h
   ·rcases kQ h with ⟨_,h1⟩ | ⟨_,h1⟩
    ·exact ihy R st K r h1
    ·exact ihz R st K r h1
   ·cases h
 | region id ops draw=>
   intro R st K r h
   simp only [exec] at h
   split at h
   ·obtain ⟨st',h2⟩:=RI h;exact ⟨_,_,h2⟩
   ·obtain ⟨lv,_,h2⟩:=Option.bind_eq_some_iff.1 h;exact ⟨_,_,h2⟩
 | loop x ih=>
   intro R st K r h
   simp only [exec] at h
   split at h
   ·generalize A.unroll (au x)=n at h
    induction n generalizing st with
    | zero=>cases h
    | succ n ihn=>
      simp only [Zr] at h
      obtain ⟨e,st',h2⟩:=ih _ _ _ _ h
      cases e with
      | normal=>exact ihn _ h2
      | _=>exact ⟨_,_,h2⟩
   split at h
   ·split at h
    ·cases h
    ·obtain ⟨p,_,h2⟩:=Option.bind_eq_some_iff.1 h
     unfold iA at h2
     rw [List.getD_eq_getElem?_getD,List.getElem?_map] at h2
     cases h3:(jL x)[p.1]? with
     | none=>rw [h3] at h2;cases h2
     | some e=>rw [h3] at h2;exact ⟨_,_,h2⟩
   ·cases h
 | _=>intro R st K r h;simp [exec] at h
theorem HU {α R:Type} {l:List α} {g:α->Option R} {k:Nat} {r:R} (h:iA k (l.map g)=some r): ∃e,g e=some r:=by
 unfold iA at h
 rw [List.getD_eq_getElem?_getD,List.getElem?_map] at h
 cases h3:l[k]? with
 | none=>rw [h3] at h;cases h
 | some e=>rw [h3] at h;exact ⟨_,h⟩
theorem GR: ∀(c:Code) (R:Type) (st:St) (K:Ex->St->Option R) (r:R),cy P Γ C A c R st K=some r-> ∃e st',K e st'=some r:=by
 intro c
 induction c with
 | seq x y _ ihy=>
   intro R st K r h
   by_cases hx: ∃l',x= .label l'
   ·obtain ⟨l',rfl⟩:=hx
    simp only [cy] at h
    split at h
    ·unfold Hs at h
     simp only at h
     split at h
     ·split at h
      ·cases h
      ·obtain ⟨p,_,h2⟩:=Option.bind_eq_some_iff.1 h
       obtain ⟨e,h3⟩:=HU h2
       exact ⟨_,_,h3⟩
     ·cases h
    ·exact o6 _ _ _ _ _ h
   ·have h':exec P Γ C A x R st (fun e st'=>match e with | .normal=>cy P Γ C A y R st' K | e=>K e st')=some r:=by
     cases x<;>first | exact absurd ⟨_,rfl⟩ hx | exact h
    obtain ⟨e,st',h2⟩:=o6 _ _ _ _ _ h'
    cases e with
    | normal=>exact ihy R st' K r h2
    | _=>exact ⟨_,_,h2⟩
 | _=>intro R st K r h;exact o6 _ _ _ _ _ h
theorem M7: ∀(c:Code) (R:Type) (st:St) (K:Ex->St->Option R) (r:R),de P Γ C A c R st K=some r-> ∃e st',K e st'=some r:=by
 intro c
 induction c with
 | seq x y _ ihy=>
   intro R st K r h
   simp only [de] at h
   obtain ⟨e,st',h2⟩:=o6 _ _ _ _ _ h
   cases e with
   | normal=>exact ihy R st' K r h2
   | _=>exact ⟨_,_,h2⟩
 | scope b _=>
   intro R st K r h
   simp only [de] at h
   split at h
   ·exact GR _ _ _ _ _ h
   ·exact o6 _ _ _ _ _ h
 | _=>intro R st K r h;exact o6 _ _ _ _ _ h
theorem SG {f:Func} {as:List (List IV)} {r:List IV} (hA:A.scalar=true) (h:run P Γ C A f as=some r): ∀x∈r,x.scalar=true:=by
 unfold run at h
 split at h
 ·obtain ⟨e,st',h2⟩:=M7 _ _ _ _ _ h
  have key: ∀q,fin A q=some r-> ∀x∈r,x.scalar=true:=by
   intro q hq
   unfold fin at hq
   split at hq
   ·rw [if_pos hA] at hq
    unfold ai at hq
    split at hq
    ·rename_i hall;cases hq;exact fun x hx=>List.all_eq_true.1 hall x hx
    ·cases hq
   ·cases hq
  cases e with
  | normal=>exact key _ h2
  | exit j=>cases h2
  | goto l=>cases h2
  | ret=>exact key _ h2
 ·cases h
end
section
variable {P:Program} {Γ:FuncId->Option FSig} {C:IV->List Nat->List (List IV)->Option (List IV)} {A:Ann} {w0:World} {ok0:O0} {w:World} {ok:Nat->Prop} {mu:Mu} {st:St} {a:Act}
theorem PB {t:TypeId} {cs:List IV} {p:PV} {v:Value} (h:NC P t cs=some p) (r:ArgRel w ok cs v):RP w ok (fun _=>none) p v:=by
 unfold NC at h
 split at h
 ·split at h
  ·rename_i hc
   cases h
   rcases r with ⟨x,e,_⟩ | ⟨h1,vs,rfl,h2,h3⟩
   ·rw [e] at hc;simp at hc;omega
   ·refine .agg _ _ (by simp [h2]) fun i q u h4 h5=> ?_
    rw [List.getElem?_map] at h4
    cases hi:cs[i]? with
    | none=>rw [hi] at h4;cases h4
    | some x=>rw [hi] at h4;cases h4;exact .imm (h3 i x u hi h5)
  ·cases h
 ·split at h
  ·cases h
   rcases r with ⟨x,e,hr⟩ | ⟨h1,_⟩
   ·cases e;exact .imm hr
   ·simp at h1
  ·cases h
theorem eL: ∀(ts:List TypeId) (n:Nat) (as:List (List IV)) (ps:List PV) (args:List Value),dC P ts n as=some ps->as.length=args.length->(∀(i:Nat) (c:List IV) (v:Value),as[i]? =some c->args[i]? =some v->ArgRel w ok c v)->
  ps.length=args.length/\ ∀(i:Nat) (p:PV) (v:Value),ps[i]? =some p->args[i]? =some v->RP w ok (fun _=>none) p v
 | [],0,[],ps,args,h,hl,_=>by
   simp only [dC,Option.some.injEq] at h
   subst h
   exact ⟨by simpa using hl,fun i p v h1 _=>by simp at h1⟩
 | [],0,_::_,ps,args,h,_,_=>by simp [dC] at h
 | [],n+1,[],ps,args,h,_,_=>by simp [dC] at h
 | [],n+1,[]::l,ps,args,h,_,_=>by simp [dC] at h
 | [],n+1,(_::_::_)::l,ps,args,h,_,_=>by simp [dC] at h
 | [],n+1,[x]::l,ps,args,h,hl,hr=>by
   simp only [dC,Option.map_eq_some_iff] at h
   obtain ⟨qs,h1,rfl⟩:=h
   cases args with
   | nil=>simp at hl
   | cons v args=>
     obtain ⟨h2,h3⟩:=eL [] n l qs args h1 (by simpa using hl) fun i c v hc hv=>hr (i+1) c v (by simpa using hc) (by simpa using hv)
     refine ⟨by simp [h2],fun i p u h4 h5=> ?_⟩
     cases i with
     | zero=>
       simp at h4 h5;subst h4;subst h5
       rcases hr 0 [x] v rfl rfl with ⟨y,e,hx⟩ | ⟨h6,_⟩
       ·cases e;exact .imm hx
       ·simp at h6
     | succ i=>exact h3 i p u (by simpa using h4) (by simpa using h5)
 | t::ts,n,[],ps,args,h,_,_=>by simp [dC] at h
 | t::ts,n,cs::l,ps,args,h,hl,hr=>by
   simp only [dC] at h
   obtain ⟨p,h0,h⟩:=Option.bind_eq_some_iff.1 h
   obtain ⟨qs,h1,rfl⟩:=Option.map_eq_some_iff.1 h
   cases args with
   | nil=>simp at hl
   | cons v args=>
     obtain ⟨h2,h3⟩:=eL ts n l qs args h1 (by simpa using hl) fun i c v hc hv=>hr (i+1) c v (by simpa using hc) (by simpa using hv)
     refine ⟨by simp [h2],fun i q u h4 h5=> ?_⟩
     cases i with
     | zero=>simp at h4 h5;subst h4;subst h5;exact PB h0 (hr 0 cs v rfl rfl)
     | succ i=>exact h3 i q u (by simpa using h4) (by simpa using h5)
def Pr (w0:World) (ok0:O0) (w:World):Nat->Prop:=fun b=>ok0.ok b\/(Own0 w0 ok0 b/\b < w.heap.size)
theorem V7 (i:Inv w0 ok0 w ok mu st.h) (l:List Nat): ∀b,fX ok mu l b->Pr w0 ok0 w b:=fun b hb=>by
 rcases hb with hb | ⟨q,_,pl,base,h1,h2⟩
 ·rcases i.okb b hb with h1 | h1
  ·exact .inl h1
  ·exact .inr ⟨h1,i.okw b hb⟩
 ·obtain ⟨h3,h4,_⟩:=i.own q pl b base h1 h2
  exact .inr ⟨h3,h4⟩
theorem UL {w0 w:World} {OK:Nat->Prop}: ∀b,Pr w0 ⟨OK,fun _=>False⟩ w b->sj w0 OK w b:=fun b hb=>by
 rcases hb with h | ⟨h | h,h2⟩
 ·exact .inl h
 ·exact .inr ⟨h,h2⟩
 ·exact h.elim
theorem mT.more {w:World} {ok ok':Nat->Prop} (hm: ∀b,ok b->ok' b) {n:Nat} {r:List IV} {i:Nat} {v:Value} (h:mT w ok n r i v):mT w ok' n r i v:=by
 rcases h with ⟨h1,h2⟩ | ⟨h1,vs,h2,h3,h4⟩
 ·exact .inl ⟨h1,h2.more hm⟩
 ·exact .inr ⟨h1,vs,h2,h3,fun j u hu=>(h4 j u hu).more hm⟩
theorem gZ.more {w:World} {ok ok':Nat->Prop} (hm: ∀b,ok b->ok' b) {r:List IV}: ∀{ns:List Nat} {i:Nat} {vs:List Value},gZ w ok r ns i vs->gZ w ok' r ns i vs
 | [],_,[],_=>trivial
 | _::_,_,_::_,h=>⟨h.1.more hm,gZ.more hm h.2⟩
 | [],_,_::_,h=>h.elim
 | _::_,_,[],h=>h.elim
theorem dI.more {w:World} {ok ok':Nat->Prop} (hm: ∀b,ok b->ok' b) {ns:List Nat} {r:List IV} {v:Value} (h:dI w ok ns r v):dI w ok' ns r v:=by
 match ns,h with
 | [n],h=>exact mT.more hm h
 | [],h=>exact h.imp fun vs h=>⟨h.1,h.2.more hm⟩
 | n::m::ns,h=>exact h.imp fun vs h=>⟨h.1,h.2.more hm⟩
theorem Ef (c:Cfg w0 ok0 w ok mu st a) {n:Nat} {p:PV} {v:Value} (r:RP w ok mu p v) {cs:List IV} (h:qn n p st.h=some cs):cs.length=n/\ ∀(l:List IV) (i:Nat),(∀j,j < n->nth l (i+j)=nth cs j)->mT w (Pr w0 ok0 w) n l i v:=by
 unfold qn at h
 split at h
 ·rename_i hok
  obtain ⟨as,h1,h2⟩:=Option.bind_eq_some_iff.1 h
  split at h2
  ·rename_i hn
   cases h2
   refine ⟨hn,fun l i hl=> ?_⟩
   have hrel:=(wJ c.inv.q r hok h1).more (V7 c.inv _)
   rcases hrel with ⟨x,e,hx⟩ | ⟨h3,vs,e,h4,h5⟩
   ·subst e
    have hn1:n=1:=by rw [<-hn];rfl
    refine .inl ⟨hn1,?_⟩
    have:=hl 0 (by omega)
    rw [Nat.add_zero] at this
    rw [this];exact hx
   ·refine .inr ⟨by omega,vs,e,by omega,fun j u hu=> ?_⟩
    have hj:j < n:=by have:=(Array.getElem?_eq_some_iff.1 hu).1;omega
    rw [hl j hj]
    refine h5 j (nth cs j) u ?_ hu
    exact Fu (by omega)
  ·cases h2
 ·cases h
theorem gA {x y:List IV} {j:Nat} (h:j < x.length):nth (x++y) j=nth x j:=by
 unfold nth;rw [List.getD_eq_getElem?_getD,List.getElem?_append_left h,List.getD_eq_getElem?_getD]
theorem jg {x y:List IV} {j:Nat}:nth (x++y) (x.length+j)=nth y j:=by
 unfold nth;rw [List.getD_eq_getElem?_getD,List.getElem?_append_right (by omega),List.getD_eq_getElem?_getD];congr 2;omega
theorem wu (c:Cfg w0 ok0 w ok mu st a) {x:Nat} {t:TypeId} {p:PV} (h:xH P t (st.fr.getD x .undef) st.h=some p): ∃v,(do loadVar t (<-asAddr (a.tmps.getD x undef)):Sem Value).run P w= .ok v w/\RP w ok mu p v:=by
 have r:RP w ok mu (st.fr.getD x .undef) (a.tmps.getD x undef):=c.fr.ev (.tmp x)
 generalize a.tmps.getD x undef=v0 at r
 unfold xH at h
 split at h
 ·rename_i q j hx
  rw [hx] at r
  split at h
  ·rename_i md cs hg
   cases r with
   | ptr _ _ pl b base hm hl=>
     have hob:=c.inv.ob q pl hm
     rw [hg] at hob
     obtain ⟨b',base',cc,T,hl',hw,hs,hr⟩:=hob
     rw [hl] at hl';cases hl'
     have has:(asAddr (.pointer (some ⟨b,base+j,none⟩))).run P w= .ok ⟨b,base+j,none⟩ w:=rfl
     split at h
     ·rename_i hag
      split at h
      ·rename_i hj
       cases h
       have hvs:((cc.toList.drop (base+j)).take (P.cellsOf t)).length=P.cellsOf t:=by simp;omega
       refine ⟨.agg ((cc.toList.drop (base+j)).take (P.cellsOf t)).toArray,?_,?_⟩
       ·rw [Sem.run_bind,has]
        simp only [Result.andThen_ok]
        refine uq hag hvs fun i v hi=> ?_
        have hlt:i < P.cellsOf t:=by have:=(List.getElem?_eq_some_iff.1 hi).1;rwa [hvs] at this
        rw [List.getElem?_take_of_lt hlt,List.getElem?_drop] at hi
        rw [eu hw]
        simpa using hi
       ·refine .agg _ _ (by simp;omega) fun i p v h1 h2=> ?_
        have hlt:i < P.cellsOf t:=by
         have:=(List.getElem?_eq_some_iff.1 h1).1;simp at this;omega
        rw [List.getElem?_take_of_lt hlt,List.getElem?_drop] at h1
        rw [List.getElem?_toArray,List.getElem?_take_of_lt hlt,List.getElem?_drop] at h2
        obtain ⟨u,h3,h4⟩:=hr (j+i) p h1
        have:cc[base+(j+i)]? =some v:=by rw [<-Nat.add_assoc];simpa using h2
        rw [h3] at this;cases this
        exact h4
      ·cases h
     ·split at h
      ·rename_i hsc
       obtain ⟨u,h3,h4⟩:=hr j p h
       refine ⟨u,?_,h4⟩
       rw [Sem.run_bind,has]
       simp only [Result.andThen_ok]
       exact ui hsc (by rw [eu hw];exact h3)
      ·cases h
  ·cases h
 ·cases h
def dF (tmps:Array Value):ResultVar->Sem Value
 | .tmp t=>pure (tmps.getD t undef)
 | .cell a t=>do loadVar t (<-asAddr (tmps.getD a undef))
theorem Oi (c:Cfg w0 ok0 w ok mu st a): ∀(rs:List ResultVar) (ns:List Nat) (cs:List IV),uJ P st rs ns=some cs-> ∃vs,(rs.mapM (dF a.tmps)).run P w= .ok vs w/\vs.length=rs.length/\rs.length=ns.length/\
  ∀(l:List IV) (i:Nat),(∀j,j < cs.length->nth l (i+j)=nth cs j)->gZ w (Pr w0 ok0 w) l ns i vs
 | [],[],cs,h=>by
   simp only [uJ,Option.some.injEq] at h
   subst h
   exact ⟨[],by simp,rfl,rfl,fun l i _=>trivial⟩
 | [],_::_,cs,h=>by simp [uJ] at h
 | .tmp _::_,[],cs,h=>by simp [uJ] at h
 | .cell _ _::_,[],cs,h=>by simp [uJ] at h
 | .tmp t::rs,n::ns,cs,h=>by
   simp only [uJ] at h
   split at h
   ·rename_i x xs hx hxs
    cases h
    have r:RP w ok mu (st.fr.getD t .undef) (a.tmps.getD t undef):=c.fr.ev (.tmp t)
    obtain ⟨hn,h1⟩:=Ef c r hx
    obtain ⟨vs,h2,h3,h4,h5⟩:=Oi c rs ns xs hxs
    refine ⟨a.tmps.getD t undef::vs,?_,by simp [h3],by simp [h4],fun l i hl=>⟨h1 l i fun j hj=> ?_,h5 l (i+n) fun j hj=> ?_⟩⟩
    ·simp only [List.mapM_cons,dF,Sem.run_bind,h2,Sem.run_pure,Result.andThen_ok]
    ·rw [hl j (by simp;omega),gA (by omega)]
    ·have:=hl (n+j) (by simp;omega)
     rw [show i+n+j=i+(n+j) by omega,this,<-hn,jg]
   ·cases h
 | .cell x t::rs,n::ns,cs,h=>by
   simp only [uJ] at h
   split at h
   ·rename_i y ys hx hxs
    cases h
    obtain ⟨p,hp,hq⟩:=Option.bind_eq_some_iff.1 hx
    obtain ⟨v,hv,r⟩:=wu (P:=P) c hp
    obtain ⟨hn,h1⟩:=Ef c r hq
    obtain ⟨vs,h2,h3,h4,h5⟩:=Oi c rs ns ys hxs
    refine ⟨v::vs,?_,by simp [h3],by simp [h4],fun l i hl=>⟨h1 l i fun j hj=> ?_,h5 l (i+n) fun j hj=> ?_⟩⟩
    ·have hv':(dF a.tmps (.cell x t)).run P w= .ok v w:=hv
     simp only [List.mapM_cons,Sem.run_bind,hv',h2,Sem.run_pure,Result.andThen_ok]
    ·rw [hl j (by simp;omega),gA (by omega)]
    ·have:=hl (n+j) (by simp;omega)
     rw [show i+n+j=i+(n+j) by omega,this,<-hn,jg]
   ·cases h
theorem O7 (c:Cfg w0 ok0 w ok mu st a) {f:Func} {r:List IV} (h:uJ P st f.results.toList (f.resultTypes.toList.map P.cellsOf)=some r):
  ∃v,(results f a.tmps).run P w= .ok v w/\dI w (Pr w0 ok0 w) (f.resultTypes.toList.map P.cellsOf) r v:=by
 obtain ⟨vs,h1,h2,h3,h4⟩:=Oi c _ _ _ h
 have hr:results f a.tmps=(do let vs <-f.results.mapM (dF a.tmps);pure (if h:vs.size=1 then vs[0] else .tuple vs)):=by
  unfold results
  congr 2
 have hm:(f.results.mapM (dF a.tmps)).run P w= .ok vs.toArray w:=by
  rw [Array.mapM_eq_mapM_toList,map_eq_pure_bind]
  simp only [Sem.run_bind,h1,Result.andThen_ok,Sem.run_pure]
 have hall:=h4 r 0 fun j _=>by rw [Nat.zero_add]
 refine ⟨if h:vs.toArray.size=1 then vs.toArray[0] else .tuple vs.toArray,by rw [hr,Sem.run_bind,hm];rfl,?_⟩
 generalize f.resultTypes.toList.map P.cellsOf=ns at*
 match ns,vs,h2,h3,hall with
 | [n],[v],_,_,hall=>exact hall.1
 | [],[],_,_,_=>exact ⟨_,rfl,trivial⟩
 | n::m::ns,v::u::vs,_,_,hall=>
   unfold dI
   split
   ·rename_i heq;cases heq
   ·refine ⟨_,by rw [dif_neg (by simp)],by simpa using hall⟩
theorem UE (hΓ:ak P Γ) (hC:COK P C) (hm:P.follows .mixedOrders=true) {g:FuncId} {f:Func} (hg:P.funcs[g]? =some f) (hb:(match f.body with | some c=>rq Γ A c | none=>false)=true) {W:World} {OK:Nat->Prop} (hok: ∀b,OK b->b < W.heap.size)
  {as:List (List IV)} {args:List Value} (hargs:bh W OK as args) {r:List IV} (hr:run P Γ C A f as=some r):
  Calls P g args.toArray W fun e w'=> ∃v,e= .returned v/\Below W.heap.size W w'/\dI w' (sj W OK w') (f.resultTypes.toList.map P.cellsOf) r v:=by
 unfold run at hr
 split at hr
 ·rename_i c ps hc hps
  rw [hc] at hb
  obtain ⟨hl,hrel⟩:=eL _ _ _ _ _ hps hargs.1 hargs.2
  refine calls_of_wp hg hc (ng (w0:=W) (ok0:=⟨OK,fun _=>False⟩) hΓ hC hm c hb _ _ _ r hr (fun _ _=>rfl) _ W OK (fun _=>none) ⟨⟨.refl _ _ _,hok,fun b hb=> .inl hb,fun o pl ho=>(by cases ho),fun o pl b base ho=>(by cases ho),fun o o' pl pl' b base base' ho=>(by cases ho)⟩,fun _ _=>rfl,?_⟩ _ fun e st' a' w' ok' mu' hk hcf hst=> ?_)
  ·refine ⟨by simp [hl],fun t p v h1 h2=> ?_⟩
   simp only [Array.getElem?_append,List.size_toArray] at h2
   by_cases hlt:t < args.length
   ·rw [List.getElem?_append_left (by omega)] at h1
    rw [if_pos hlt] at h2
    exact hrel t p v h1 (by simpa using h2)
   ·rw [List.getElem?_append_right (by omega),List.getElem?_replicate] at h1
    rw [if_neg hlt,Array.getElem?_replicate] at h2
    split at h1
    ·split at h2
     ·cases h1;cases h2;exact .skip
     ·cases h2
    ·cases h1
  ·have hfin: ∀q,fin A q=some r->q=some r:=by
    intro q hq
    unfold fin at hq
    split at hq
    ·split at hq
     ·unfold ai at hq
      split at hq
      ·exact hq
      ·cases hq
     ·exact hq
    ·cases hq
   have done:uJ P st' f.results.toList (f.resultTypes.toList.map P.cellsOf)=some r->a'.defers=[]/\ ∃v,(results f a'.tmps).run P w'= .ok v w'/\ ∃v_1,Ending.returned v= .returned v_1/\Below W.heap.size W w'/\dI w' (sj W OK w') (f.resultTypes.toList.map P.cellsOf) r v_1:=by
    intro h
    obtain ⟨v,h1,h2⟩:=O7 hcf h
    exact ⟨hst.defers,v,h1,v,rfl,(hcf.inv.below.below fun _ h=>h),h2.more UL⟩
   cases e with
   | normal=>exact done (hfin _ hk)
   | exit j=>cases hk
   | goto l=>cases hk
   | ret=>exact done (hfin _ hk)
 ·cases hr
end
end Go.AM
