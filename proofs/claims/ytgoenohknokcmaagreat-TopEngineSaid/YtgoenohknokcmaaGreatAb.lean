/- The abstract machine's operations against the model's, fifth part: append. -/
import Derived.Test.YtgoenohknokcmaaGreatAa
import Derived.Laws.StructEq
import Derived.Lib.ConvBytes
import Derived.MapKept
import Derived.Carry
import Derived.WideLaws
import Derived.Laws.MakeOwn
import Derived.Laws.BytesString
import Derived.Laws.BytesArg
import Derived.Laws.IdiomStrings
set_option linter.unusedVariables false
set_option linter.unusedSimpArgs false
namespace Go.AM
open Go.RowKit
section
variable {P:Program} {o:Oper} {a:Act} {w:World} {ok:Nat->Prop} {mu:Mu} {h:List Ob} {fr:List PV}
def Rows (w:World) (ok:Nat->Prop) (es:List (List IV)) (sz:Nat) (vs:List Value):Prop:=
 vs.length=es.length*sz/\(∀v∈vs,v.oneCell'=true)/\ ∀(i j:Nat) (e:List IV) (x:IV),es[i]? =some e->e[j]? =some x-> ∃v,vs[i*sz+j]? =some v/\RV w ok x v
theorem wY {n sz i j:Nat} (hi:i < n) (hj:j < sz):i*sz+j < n*sz:=by
 calc i*sz+j < i*sz+sz:=by omega
  _=(i+1)*sz:=by rw [Nat.succ_mul]
  _<=n*sz:=Nat.mul_le_mul_right _ hi
theorem Rows.append {es ys:List (List IV)} {sz:Nat} {us vs:List Value} (h1:Rows w ok es sz us) (h2:Rows w ok ys sz vs) (he: ∀e∈es,e.length=sz):Rows w ok (es++ys) sz (us++vs):=by
 refine ⟨by simp [h1.1,h2.1,Nat.add_mul],fun v hv=> ?_,fun i j e x hi hj=> ?_⟩
 ·rcases List.mem_append.1 hv with hv | hv
  ·exact h1.2.1 v hv
  ·exact h2.2.1 v hv
 ·by_cases hlt:i < es.length
  ·rw [List.getElem?_append_left hlt] at hi
   have hjl:j < sz:=by rw [<-he e (List.mem_of_getElem? hi)];exact (List.getElem?_eq_some_iff.1 hj).1
   obtain ⟨v,hv,hr⟩:=h1.2.2 i j e x hi hj
   exact ⟨v,by rw [List.getElem?_append_left (by rw [h1.1];exact wY hlt hjl)];exact hv,hr⟩
  ·rw [List.getElem?_append_right (by omega)] at hi
   obtain ⟨v,hv,hr⟩:=h2.2.2 (i - es.length) j e x hi hj
   refine ⟨v,?_,hr⟩
   have hge:us.length<=i*sz+j:=by
    rw [h1.1]
    have:es.length*sz<=i*sz:=Nat.mul_le_mul_right _ (by omega)
    omega
   rw [List.getElem?_append_right hge,h1.1]
   have:i*sz+j - es.length*sz=(i - es.length)*sz+j:=by
    rw [Nat.sub_mul]
    have:es.length*sz<=i*sz:=Nat.mul_le_mul_right _ (by omega)
    omega
   rw [this];exact hv
theorem nG (iq:InvQ w ok mu h) {p:PV} {v:Value} (r:RP w ok mu p v) {ys:List (List IV)} (hs:lR h p=some (.lst ys)) {sz:Nat} (hpos:0 < sz) (hall: ∀e∈ys,e.length=sz):
  ∃A cap vs,v= .slice A ys.length cap/\Rows w ok ys sz vs/\(0 < ys.length-> ∃ad,A=some ad/\ ∀q u,vs[q]? =some u->w.cell? (ad.add q)=some u):=by
 have objCase: ∀{pl:Pl} {es:List (List IV)} {md:Md} {s:Nat} {q:Nat} {A:Option Addr} {cap l u:Nat},mu q=some pl->getOb h q= .arr md s (.lst es)->l<=u->u<=pl.len->Hdr pl l (u - l) cap A->(es.drop l).take (u - l)=ys->v= .slice A (u - l) cap->
   ∃A cap vs,v= .slice A ys.length cap/\Rows w ok ys sz vs/\(0 < ys.length-> ∃ad,A=some ad/\ ∀q u,vs[q]? =some u->w.cell? (ad.add q)=some u):=by
  intro pl es md s q A cap l u hm hg hlu hul hh hys hv
  have hob:=iq.ob q pl hm
  rw [hg] at hob
  obtain ⟨hps,es',hes,hlen,he,hnone,hc⟩:=hob.arrN (fun _ h=>by cases h)
  cases hes
  have hyl:ys.length=u - l:=by rw [<-hys];simp;omega
  rcases hh.2 with ⟨h0,_⟩ | ⟨b,base,hb,hA⟩
  ·have:ys=[]:=List.length_eq_zero_iff.1 (by omega)
   subst this
   exact ⟨A,cap,[],by rw [hv,<-hyl],⟨by simp,by simp,by simp⟩,fun hp=>by simp at hp⟩
  ·obtain ⟨c,T,hw,hsz,hr⟩:=hc b base hb
   by_cases hy0:ys=[]
   ·subst hy0
    exact ⟨A,cap,[],by rw [hv,<-hyl],⟨by simp,by simp,by simp⟩,fun hp=>by simp at hp⟩
   ·have hss:s=sz:=by
     obtain ⟨e,he'⟩:=List.exists_mem_of_ne_nil ys hy0
     have h1:=hall e he'
     have h2:=he e (by rw [<-hys] at he';exact List.mem_of_mem_drop (List.mem_of_mem_take he'))
     omega
    subst hss
    have hlim:base+l*s+ys.length*s<=c.size:=by
     have:l*s+ys.length*s<=es.length*s:=by rw [<-Nat.add_mul];exact Nat.mul_le_mul_right _ (by omega)
     omega
    have hcellrel: ∀i j e x,ys[i]? =some e->e[j]? =some x-> ∃v,c[base+l*s+(i*s+j)]? =some v/\RV w ok x v:=by
     intro i j e x hi hj
     have hil:i < u - l:=by have:=(List.getElem?_eq_some_iff.1 hi).1;omega
     rw [<-hys,List.getElem?_take_of_lt hil,List.getElem?_drop] at hi
     obtain ⟨v,h1,h2⟩:=hr (l+i) j e x hi hj
     refine ⟨v,?_,h2⟩
     rw [show base+l*s+(i*s+j)=base+(l+i)*s+j by rw [Nat.add_mul];omega]
     exact h1
    refine ⟨A,cap,(c.toList.drop (base+l*s)).take (ys.length*s),by rw [hv,<-hyl],⟨by simp;omega,fun v hv=> ?_,fun i j e x hi hj=> ?_⟩,fun _=>⟨_,hA,fun q u hq=> ?_⟩⟩
    ·obtain ⟨q,hq,hqv⟩:=List.mem_iff_getElem.1 hv
     have hql:q < ys.length*s:=by simp at hq;omega
     have hspos:0 < s:=by
      rcases Nat.eq_zero_or_pos s with h0 | h0
      ·subst h0;simp at hql
      ·exact h0
     have hdiv:q / s < ys.length:=Nat.div_lt_of_lt_mul (by rw [Nat.mul_comm];exact hql)
     have hmod:q % s < s:=Nat.mod_lt _ hspos
     have hel:ys[q / s].length=s:=hall _ (List.getElem_mem hdiv)
     obtain ⟨v',h1,h2⟩:=hcellrel (q / s) (q % s) _ _ (List.getElem?_eq_getElem hdiv) (List.getElem?_eq_getElem (by omega))
     have hqe:q / s*s+q % s=q:=by rw [Nat.mul_comm];exact Nat.div_add_mod q s
     rw [hqe] at h1
     have:v=v':=by
      have h3:((c.toList.drop (base+l*s)).take (ys.length*s))[q]? =some v:=by rw [List.getElem?_eq_getElem hq,hqv]
      rw [List.getElem?_take_of_lt hql,List.getElem?_drop] at h3
      have h4:c[base+l*s+q]? =some v:=by simpa using h3
      rw [h1] at h4;exact (Option.some.inj h4).symm
     rw [this];exact h2.atomic
    ·have hil:i < ys.length:=(List.getElem?_eq_some_iff.1 hi).1
     have hjl:j < s:=by rw [<-hall e (List.mem_of_getElem? hi)];exact (List.getElem?_eq_some_iff.1 hj).1
     obtain ⟨v,h1,h2⟩:=hcellrel i j e x hi hj
     refine ⟨v,?_,h2⟩
     rw [List.getElem?_take_of_lt (wY hil hjl),List.getElem?_drop]
     simpa using h1
    ·have hql:q < ys.length*s:=by
      have:=(List.getElem?_eq_some_iff.1 hq).1;simp at this;omega
     rw [List.getElem?_take_of_lt hql,List.getElem?_drop] at hq
     rw [cg,hps,eu hw]
     simpa using hq
 cases p with
 | imm x=>
   simp only [lR,Option.some.injEq] at hs
   subst hs
   cases r with
   | imm r=>
     cases r with
     | lst es A cap s vals hcap hsz hmem hrel=>
       by_cases hy0:ys=[]
       ·subst hy0
        exact ⟨A,cap,[],rfl,⟨by simp,by simp,by simp⟩,fun hp=>by simp at hp⟩
       ·have hss:s=sz:=by
         obtain ⟨e,he'⟩:=List.exists_mem_of_ne_nil ys hy0
         have h1:=hall e he'
         have h2:=hsz e he'
         omega
        subst hss
        have hlp:0 < ys.length:=List.length_pos_iff.2 hy0
        refine ⟨A,cap,(List.range (ys.length*s)).map fun q=>vals (q / s) (q % s),rfl,⟨by simp,fun v hv=> ?_,fun i j e x hi hj=> ?_⟩,fun _=> ?_⟩
        ·obtain ⟨q,hq,rfl⟩:=List.mem_map.1 hv
         have hql:q < ys.length*s:=List.mem_range.1 hq
         have hspos:0 < s:=by
          rcases Nat.eq_zero_or_pos s with h0 | h0
          ·subst h0;simp at hql
          ·exact h0
         have hdiv:q / s < ys.length:=Nat.div_lt_of_lt_mul (by rw [Nat.mul_comm];exact hql)
         have hmod:q % s < s:=Nat.mod_lt _ hspos
         have hel:ys[q / s].length=s:=hall _ (List.getElem_mem hdiv)
         exact (hrel _ _ _ _ (List.getElem?_eq_getElem hdiv) (List.getElem?_eq_getElem (by omega))).atomic
        ·have hil:i < ys.length:=(List.getElem?_eq_some_iff.1 hi).1
         have hjl:j < s:=by rw [<-hall e (List.mem_of_getElem? hi)];exact (List.getElem?_eq_some_iff.1 hj).1
         have hspos:0 < s:=by omega
         have h1:(i*s+j) / s=i:=by rw [Nat.mul_comm,Nat.mul_add_div hspos,Nat.div_eq_of_lt hjl,Nat.add_zero]
         have h2:(i*s+j) % s=j:=by rw [Nat.mul_comm,Nat.mul_add_mod,Nat.mod_eq_of_lt hjl]
         refine ⟨vals i j,?_,hrel i j e x hi hj⟩
         rw [List.getElem?_map,List.getElem?_range (wY hil hjl)]
         simp [h1,h2]
        ·obtain ⟨ad,hA,_,_⟩:=hmem 0 0 hlp (by omega)
         refine ⟨ad,hA,fun q u hq=> ?_⟩
         have hql:q < ys.length*s:=by
          have:=(List.getElem?_eq_some_iff.1 hq).1;simpa using this
         rw [List.getElem?_map,List.getElem?_range hql] at hq
         simp only [Option.map_some,Option.some.injEq] at hq
         have hspos:0 < s:=by omega
         obtain ⟨ad',hA',_,hcell⟩:=hmem (q / s) (q % s) (Nat.div_lt_of_lt_mul (by rw [Nat.mul_comm];exact hql)) (Nat.mod_lt _ hspos)
         rw [hA] at hA';cases hA'
         have hqe:q / s*s+q % s=q:=by rw [Nat.mul_comm];exact Nat.div_add_mod q s
         rw [hqe] at hcell
         rw [hcell,hq]
 | nils=>
   simp only [lR,Option.some.injEq] at hs
   cases hs
   cases r
   exact ⟨_,0,[],rfl,⟨by simp,by simp,by simp⟩,fun hp=>by simp at hp⟩
 | buf q n=>
   simp only [lR] at hs
   split at hs
   ·rename_i md s x hg
    cases hs
    cases r with
    | buf q n A cap pl hm hn hh hc=>
      have hob:=iq.ob q pl hm
      rw [hg] at hob
      obtain ⟨hps,es',hes,hlen,_⟩:=hob.arrC hc
      cases hes
      exact objCase (l:=0) (u:=n) hm hg (Nat.zero_le _) (by omega) hh (by simp [hn,<-hlen]) rfl
   ·cases hs
 | sub q l u=>
   simp only [lR] at hs
   split at hs
   ·rename_i md s x hg
    cases r with
    | sub q l u A cap pl hm hl hn hh hc=>
      have hob:=iq.ob q pl hm
      rw [hg] at hob
      obtain ⟨hps,es',hes,hlen,_⟩:=hob.arrC hc
      subst hes
      rw [Bo] at hs
      have hys:(es'.drop l).take (u - l)=ys:=by simpa using hs
      exact objCase hm hg hl hn hh hys rfl
   ·cases hs
 | _=>simp [lR] at hs
theorem cR {A:Option Addr} {n cap sz:Nat} {us:List Value} (hl:us.length=n*sz) (hc:0 < n-> ∃ad,A=some ad/\ ∀q u,us[q]? =some u->w.cell? (ad.add q)=some u):(Builtin.firstCells sz n (.slice A n cap)).run P w= .ok us.toArray w:=by
 cases A with
 | none=>
   have hn:n=0:=by
    rcases Nat.eq_zero_or_pos n with h | h
    ·exact h
    ·obtain ⟨ad,hA,_⟩:=hc h;cases hA
   subst hn
   have:us=[]:=List.length_eq_zero_iff.1 (by simpa using hl)
   subst this
   rfl
 | some ad=>
   have:=run_loadCells_list (P:=P) w ad us (fun q u hq=>by
    rcases Nat.eq_zero_or_pos n with h | h
    ·subst h
     have:us=[]:=List.length_eq_zero_iff.1 (by simpa using hl)
     subst this;simp at hq
    ·obtain ⟨ad',hA,h2⟩:=hc h
     cases hA;exact h2 q u hq)
   rw [hl] at this
   exact this
theorem e8 {e:TypeId} (h:kM P e=true): ∃i z,P.info? e=some i/\i.zero=some z/\z.cells.size=P.cellsOf e/\0 < P.cellsOf e/\i.size=P.cellsOf e/\i.bytes=P.bytesOf e:=by
 unfold kM gh at h
 cases hi:P.info? e with
 | none=>simp [hi] at h
 | some i=>
   cases hz:i.zero with
   | none=>simp [hi,hz] at h
   | some z=>
     simp [hi,hz] at h
     exact ⟨i,z,rfl,hz,h.1,h.2,by simp [Program.cellsOf,hi],by simp [Program.bytesOf,hi]⟩
theorem Lp (n:Nat): ∀(r c:Nat),c<=n->Builtin.growBy n r c<=n+(n+768)
 | 0,c,h=>by simp [Builtin.growBy];omega
 | r+1,c,h=>by
   simp only [Builtin.growBy]
   split
   ·omega
   ·by_cases h2:c+(c+768) / 4<=n
    ·exact Lp n r _ h2
    ·have hstop: ∀r c',n<=c'->Builtin.growBy n r c'=c':=fun r c' hc=>by cases r<;>simp [Builtin.growBy];omega
     rw [hstop r _ (by omega)]
     omega
theorem Ec {need cap bytes:Nat} (h:need*(bytes+1)<=2 ^ 40) (hc:cap < need): ¬(Builtin.nextslicecap need cap*bytes > 2 ^ 48):=by
 have hb:Builtin.nextslicecap need cap<=2*need\/(256<=need/\Builtin.nextslicecap need cap<=need+(need+768)):=by
  unfold Builtin.nextslicecap
  split
  ·left;omega
  ·split
   ·left;omega
   ·right
    exact ⟨by omega,Lp need 4 cap (by omega)⟩
 have h1:need*bytes<=2 ^ 40:=Nat.le_trans (Nat.mul_le_mul_left _ (Nat.le_succ _)) h
 rcases hb with hb | ⟨h256,hb⟩
 ·have:Builtin.nextslicecap need cap*bytes<=2*need*bytes:=Nat.mul_le_mul_right _ hb
  rw [Nat.mul_assoc] at this
  omega
 ·have h2:Builtin.nextslicecap need cap*bytes<=(need+(need+768))*bytes:=Nat.mul_le_mul_right _ hb
  have h3:(need+(need+768))*bytes=2*(need*bytes)+768*bytes:=by rw [Nat.add_mul,Nat.add_mul];omega
  have h4:256*bytes<=need*bytes:=Nat.mul_le_mul_right _ h256
  omega
theorem run_askRoom (n:Nat) (w:World):(askRoom n).run P w= .ok () w:=by
 unfold askRoom;split<;>rfl
theorem lS (z:Array Value) (n:Nat):(Builtin.zeroCells z n).size=n*z.size:=by simp [Builtin.zeroCells]
theorem ma {ats:Array TypeId} {t0 t1 e e1:TypeId} {ty:TypeId} (ha:ats= #[t0,t1]) (hu:P.underlying t0=some (.slice e)) (hu1:P.underlying t1=some (.slice e1)) (hok:kM P e=true) {A A':Option Addr} {n cap m cap':Nat} {us vs:List Value}
  (hul:us.length=n*P.cellsOf e) (huc:0 < n-> ∃ad,A=some ad/\ ∀q u,us[q]? =some u->w.cell? (ad.add q)=some u) (hvl:vs.length=m*P.cellsOf e) (hvc:0 < m-> ∃ad,A'=some ad/\ ∀q u,vs[q]? =some u->w.cell? (ad.add q)=some u)
  (hneed:cap < n+m) (hbytes:(n+m)*(P.bytesOf e+1)<=2 ^ 40):
  ∃(newCap:Nat) (rest:List Value),n+m<=newCap/\rest.length=(newCap - (n+m))*P.cellsOf e/\
   (Builtin.append_ ats ty #[.slice A n cap,.slice A' m cap']).run P w= .ok (.slice (some ⟨w.heap.size,0,none⟩) (n+m) newCap) (w.drew.alloc (.cells (us++vs++rest).toArray e)):=by
 obtain ⟨i,z,hi,hz,hzs,hpos,hsz,hbt⟩:=e8 hok
 have hnb:n+m<=2 ^ 40:=Nat.le_trans (Nat.le_mul_of_pos_right _ (by omega)) hbytes
 let newCap:=(n+m)+(w.tape w.drawn (.appendCap (n+m) cap e)) % (2 ^ 63 - (n+m))
 refine ⟨newCap,(Builtin.zeroCells z.cells (newCap - (n+m))).toList,by omega,by simp [lS,hzs],?_⟩
 have hF1:=fun (w':World) (hw:w'.heap=w.heap)=>cR (P:=P) (w:=w') (A:=A) (cap:=cap) hul (fun h=>by
  obtain ⟨ad,hA,hq⟩:=huc h
  exact ⟨ad,hA,fun q u hh=>by have:=hq q u hh;unfold World.cell? at*;rw [hw];exact this⟩)
 have hF2:=fun (w':World) (hw:w'.heap=w.heap)=>cR (P:=P) (w:=w') (A:=A') (cap:=cap') hvl (fun h=>by
  obtain ⟨ad,hA,hq⟩:=hvc h
  exact ⟨ad,hA,fun q u hh=>by have:=hq q u hh;unfold World.cell? at*;rw [hw];exact this⟩)
 have hmax: ¬(((n+m:Nat):Int) > IntKind.i64.max):=by
  have:IntKind.i64.max=9223372036854775807:=by rfl
  omega
 have hcap:=Ec hbytes hneed
 subst ha
 have hw:w.drew.heap=w.heap:=rfl
 have hchoose:(choose (.appendCap (n+m) cap e)).run P w= .ok newCap w.drew:=by
  rfl
 have hpure: ∀{α:Type} (x:α) (w:World),(pure x:Sem α).run P w= .ok x w:=fun _ _=>rfl
 have hzv: ∀w':World,(zeroValue e).run P w'= .ok z w':=fun w'=>by simp [zeroValue,run_typeInfo w' hi,hz]
 simp only [Builtin.append_,Sem.run_bind,run_underlying hu,run_underlying hu1,run_sizeOf w hi,Result.andThen_ok,Builtin.lenOf,List.getElem?_toArray,List.getElem?_cons_zero,List.getElem?_cons_succ,Bool.not_false,Bool.false_eq_true,if_false,if_true,false_or,hpure,if_neg (Nat.not_le.2 hneed)]
 simp only [run_typeInfo w hi,Result.andThen_ok]
 rw [if_neg (by rw [not_and];intro h;exact absurd h hmax)]
 simp only [Sem.run_bind,run_typeInfo w hi,Result.andThen_ok,hbt,if_neg hcap,hchoose,run_typeInfo w.drew hi,run_askRoom,hF1 w.drew hw,hF2 w.drew hw,hzv,newRow,hpure]
 simp
 congr 2
 apply Array.toList_inj.1
 simp
theorem wy {ats:Array TypeId} {t0 t1 e e1:TypeId} {ty:TypeId} (ha:ats= #[t0,t1]) (hu:P.underlying t0=some (.slice e)) (hu1:P.underlying t1=some (.slice e1)) (hpos:0 < P.cellsOf e) {A A':Option Addr} {n cap m cap':Nat} {vs:List Value}
  (hvl:vs.length=m*P.cellsOf e) (hvc:0 < m-> ∃ad,A'=some ad/\ ∀q u,vs[q]? =some u->w.cell? (ad.add q)=some u) (hv1: ∀v∈vs,v.oneCell'=true)
  (hneed:n+m<=cap) {b off:Nat} (hA:A=some ⟨b,off,none⟩) {c:Array Value} {T:TypeId} (hw:w.heap[b]? =some (.cells c T (0,0))) (hroom:off+n*P.cellsOf e+vs.length<=c.size):
  (Builtin.append_ ats ty #[.slice A n cap,.slice A' m cap']).run P w= .ok (.slice A (n+m) cap) (w.setRow b (c.toList.take (off+n*P.cellsOf e)++vs++c.toList.drop (off+n*P.cellsOf e+vs.length)).toArray):=by
 obtain ⟨i,hi⟩:=Option.isSome_iff_exists.1 (gG hpos)
 have hF2:=cR (P:=P) (w:=w) (A:=A') (cap:=cap') hvl hvc
 have hst:=run_storeCells_at (P:=P) b (off+n*P.cellsOf e) T vs 0 c w hw (by omega) hv1
 have hpure: ∀{α:Type} (x:α) (w:World),(pure x:Sem α).run P w= .ok x w:=fun _ _=>rfl
 subst ha
 subst hA
 simp only [Builtin.append_,Sem.run_bind,run_underlying hu,run_underlying hu1,run_sizeOf w hi,Result.andThen_ok,Builtin.lenOf,List.getElem?_toArray,List.getElem?_cons_zero,List.getElem?_cons_succ,Bool.not_false,Bool.false_eq_true,if_false,if_true,false_or,hpure,if_pos hneed,hF2,cg]
 simp only [Nat.add_zero] at hst
 rw [hst]
 rfl
theorem xh {ats:Array TypeId} {t0 t1 e e1:TypeId} {ty:TypeId} (ha:ats= #[t0,t1]) (hu:P.underlying t0=some (.slice e)) (hu1:P.underlying t1=some (.slice e1)) (hpos:0 < P.cellsOf e) {A A':Option Addr} {n cap cap':Nat} (hneed:n<=cap):
  (Builtin.append_ ats ty #[.slice A n cap,.slice A' 0 cap']).run P w= .ok (.slice A n cap) w:=by
 obtain ⟨i,hi⟩:=Option.isSome_iff_exists.1 (gG hpos)
 have hF2:=cR (P:=P) (w:=w) (A:=A') (n:=0) (sz:=P.cellsOf e) (cap:=cap') (us:=[]) (by simp) (fun h=>by omega)
 have hpure: ∀{α:Type} (x:α) (w:World),(pure x:Sem α).run P w= .ok x w:=fun _ _=>rfl
 subst ha
 have h0:n+0<=cap:=hneed
 simp only [Builtin.append_,Sem.run_bind,run_underlying hu,run_underlying hu1,run_sizeOf w hi,Result.andThen_ok,Builtin.lenOf,List.getElem?_toArray,List.getElem?_cons_zero,List.getElem?_cons_succ,Bool.not_false,Bool.false_eq_true,if_false,if_true,false_or,hpure,if_pos h0,hF2]
 cases A<;>simp [storeCells]
theorem LW {sz bytes:Nat} {x y z:IV} (h:lY sz bytes x y=some z): ∃es ys,x= .lst es/\y= .lst ys/\z= .lst (es++ys)/\(es.length+ys.length)*(bytes+1)<=2 ^ 40/\ ∀e∈ys,e.length=sz:=by
 unfold lY at h
 split at h
 ·split at h
  ·rename_i hc
   cases h
   exact ⟨_,_,rfl,rfl,rfl,hc.1,fun e he=>by simpa using List.all_eq_true.1 hc.2 e he⟩
  ·cases h
 ·cases h
theorem Rows.later {w':World} {ok':Nat->Prop} {es:List (List IV)} {sz:Nat} {vs:List Value} (h:Keeps w ok w' ok') (r:Rows w ok es sz vs):Rows w' ok' es sz vs:=
 ⟨r.1,r.2.1,fun i j e x h1 h2=>by obtain ⟨v,h3,h4⟩:=r.2.2 i j e x h1 h2;exact ⟨v,h3,h4.keeps h⟩⟩
theorem Eb {c:Call} (hop:o.op= .call c) (hc:c.callee= .builtin .append) {x y:Operand} (hargs:c.args= #[x,y]):execOp a.eval o=(do pure (Next.value (<-Builtin.append_ c.argTypes o.type #[a.eval x,a.eval y]))):=
 mc hop hc fun consts=>by simp [builtin,hargs]
theorem CY {ats:Array TypeId} (h:ats.size=2):ats= #[ats.getD 0 0,ats.getD 1 0]:=by
 obtain ⟨l⟩:=ats
 match l,h with
 | [x,y],_=>rfl
theorem pL {w':World} {ok':Nat->Prop} {mu':Mu} {md:Md} {es:List (List IV)} {sz b base:Nat} {c:Array Value} {T:TypeId} {vs:List Value} (hw:w'.heap[b]? =some (.cells c T (0,0))) (hall: ∀e∈es,e.length=sz) (hr:Rows w' ok' es sz vs)
  (hc: ∀q,q < vs.length->c[base+q]? =vs[q]?) (hs:base+es.length*sz<=c.size) (hpos:0 < sz:=by assumption):ObOk w' ok' mu' ⟨some (b,base),es.length,sz⟩ (.arr md sz (.lst es)):=by
 refine .inl ⟨hpos,rfl,es,rfl,rfl,hall,fun h=>(by cases h),fun b' base' hb=> ?_⟩
 cases hb
 refine ⟨c,T,hw,hs,fun i j e x h1 h2=> ?_⟩
 obtain ⟨v,h3,h4⟩:=hr.2.2 i j e x h1 h2
 refine ⟨v,?_,h4⟩
 rw [Nat.add_assoc,hc _ (List.getElem?_eq_some_iff.1 h3).1];exact h3
theorem AU {c:Call} (hop:o.op= .call c) (hc:c.callee= .builtin .append) {x y:Operand} (hargs:c.args= #[x,y]) (hat:c.argTypes.size=2) (h0:bo P (c.argTypes.getD 0 0)=true) (h1:bo P (c.argTypes.getD 1 0)=true) (hel:kM P (aU P (c.argTypes.getD 0 0))=true)
  (iq:InvQ w ok mu h) (hn:mu h.length=none) (rx:RP w ok mu (ev fr x) (a.eval x)) (ry:RP w ok mu (ev fr y) (a.eval y)) (hx:ev fr x= .nils) {s z:IV} (hs:lR h (ev fr y)=some s) (hz:lY (P.cellsOf (aU P (c.argTypes.getD 0 0))) (P.bytesOf (aU P (c.argTypes.getD 0 0))) (.lst []) s=some z):
  aq P o a w ok mu h (.buf h.length (bQ z)) (h++[.arr .rw (P.cellsOf (aU P (c.argTypes.getD 0 0))) z]):=by
 obtain ⟨e,hu,he⟩:=dR h0
 obtain ⟨e1,hu1,_⟩:=dR h1
 rw [he] at hel hz ⊢
 obtain ⟨i,zz,hi,hzz,hzs,hpos,hsz,hbt⟩:=e8 hel
 obtain ⟨es,ys,hes,rfl,rfl,hby,hall⟩:=LW hz
 cases hes
 simp only [List.nil_append,List.length_nil,Nat.zero_add] at hby ⊢
 obtain ⟨A,cap,vs,hy,hrows,hcells⟩:=nG iq ry hs hpos hall
 rw [hx] at rx
 have hex:=Eb (a:=a) hop hc hargs
 have hat2:=CY hat
 cases hxv:a.eval x with
 | slice A0 n0 c0=>
   rw [hxv] at rx
   cases rx
   rw [hxv,hy] at hex
   refine ⟨[.arr .rw (P.cellsOf e) (.lst ys)],[],h,rfl,rfl,?_⟩
   by_cases hy0:ys.length=0
   ·have:ys=[]:=List.length_eq_zero_iff.1 hy0
    subst this
    refine fI.value (w':=w) (by rw [hex];exact eU (xh hat2 hu hu1 hpos (Nat.le_refl _))) ⟨ok,fun q=>if q=h.length then some ⟨none,0,P.cellsOf e⟩ else mu q,?_⟩
    refine ⟨.refl _ _,fun _ h=>h,fun _ h=> .inl h,fun q hq=>by simp [hq],.inr ⟨_,⟨none,0,P.cellsOf e⟩,rfl,by simp,rfl,.inl ⟨by assumption,rfl,[],rfl,rfl,by simp,fun _=>rfl,fun b base hb=>(by cases hb)⟩,fun b base hb=>(by cases hb)⟩,?_⟩
    exact .buf _ _ _ 0 ⟨none,0,P.cellsOf e⟩ (by simp) rfl ⟨Nat.le_refl _,.inl ⟨rfl,rfl⟩⟩ fun b base hb=>(by cases hb)
   ·obtain ⟨newCap,rest,hcap,hrest,hrun⟩:=ma (w:=w) (ty:=o.type) (A:=A0) (A':=A) (n:=0) (cap:=0) (m:=ys.length) (cap':=cap) (us:=[]) (vs:=vs) hat2 hu hu1 hel (by simp) (fun h=>by omega) hrows.1 hcells (by omega) (by simpa using hby)
    simp only [Nat.zero_add,List.nil_append] at hrun hcap hrest
    refine fI.value (by rw [hex];exact eU hrun) ⟨ok,fun q=>if q=h.length then some ⟨some (w.heap.size,0),ys.length,P.cellsOf e⟩ else mu q,?_⟩
    have hk:Keeps w ok (w.drew.alloc (.cells (vs++rest).toArray e)) ok:=⟨fun b hb=>Below.heap_alloc w.drew _ b (iq.okw b hb),fun _ h=>h⟩
    have hheap:(w.drew.alloc (.cells (vs++rest).toArray e)).heap[w.heap.size]? =some (.cells (vs++rest).toArray e (0,0)):=ea w.drew _
    refine ⟨((Below.refl _ _).drew).alloc (Nat.le_refl _) _,fun _ h=>h,fun _ h=> .inl h,fun q hq=>by simp [hq],.inr ⟨_,⟨some (w.heap.size,0),ys.length,P.cellsOf e⟩,rfl,by simp,rfl,?_,fun b base hb=> ?_⟩,?_⟩
    ·refine pL (vs:=vs) hheap hall (hrows.later hk) (fun q hq=> ?_) ?_
     ·simp only [Nat.zero_add,List.getElem?_toArray]
      rw [List.getElem?_append_left hq]
     ·simp [hrows.1]
    ·cases hb
     exact ⟨Nat.le_refl _,by show w.heap.size < (w.heap.push _).size;simp,fun hb=>by have:=iq.okw _ hb;omega⟩
    ·refine .buf _ _ (some ⟨w.heap.size,0,none⟩) newCap ⟨some (w.heap.size,0),ys.length,P.cellsOf e⟩ (by simp) rfl ⟨hcap,.inr ⟨w.heap.size,0,rfl,by simp⟩⟩ fun b base hb=> ?_
     cases hb
     refine ⟨_,_,_,hheap,?_⟩
     simp only [List.size_toArray,List.length_append,hrows.1,hrest,Nat.zero_add]
     rw [<-Nat.add_mul]
     exact Nat.mul_le_mul_right _ (by omega)
 | _=>rw [hxv] at rx;cases rx
end
end Go.AM
namespace Go.AM
open Go.RowKit
theorem ObOk.later {w w':World} {ok ok':Nat->Prop} {mu mu':Mu} {pl:Pl} {ob:Ob} (r:ObOk w ok mu pl ob) (h:Later w ok mu w' ok' mu') (hb: ∀b base,pl.loc=some (b,base)->w'.heap[b]? =w.heap[b]?):ObOk w' ok' mu' pl ob:=by
 cases ob with
 | dead=>trivial
 | box m cs=>
   obtain ⟨b,base,c,T,hl,hw,hs,hr⟩:=r
   exact ⟨b,base,c,T,hl,by rw [hb b base hl];exact hw,hs,fun j p hj=>by obtain ⟨v,h1,h2⟩:=hr j p hj;exact ⟨v,h1,h2.later h⟩⟩
 | arr m sz x=>
   rcases r with ⟨hpos,hsz,es,rfl,hlen,hall,hnone,hc⟩ | ⟨hsz,es,b,rfl,hl,hm⟩
   case inr=>exact .inr ⟨hsz,es,b,rfl,hl,hm.keeps h.keeps (hb b 0 hl)⟩
   refine .inl ⟨hpos,hsz,es,rfl,hlen,hall,hnone,fun b base hl=> ?_⟩
   obtain ⟨c,T,hw,hs,hr⟩:=hc b base hl
   exact ⟨c,T,by rw [hb b base hl];exact hw,hs,fun i j e x h1 h2=>by obtain ⟨v,h3,h4⟩:=hr i j e x h1 h2;exact ⟨v,h3,h4.keeps h.keeps⟩⟩
theorem iT {h:List Ob} {o:Nat} (hl:(getOb h o).live=true):o < h.length:=by
 unfold getOb at hl
 rcases Nat.lt_or_ge o h.length with h1 | h1
 ·exact h1
 ·rw [List.getD_eq_getElem?_getD,List.getElem?_eq_none h1] at hl;cases hl
theorem aR {h:List Ob} {o q:Nat} (ob:Ob):getOb (h.set o ob) q=if o=q/\o < h.length then ob else getOb h q:=by
 unfold getOb
 simp only [List.getD_eq_getElem?_getD,List.getElem?_set]
 by_cases e:o=q
 ·subst e
  by_cases hl:o < h.length
  ·simp [hl]
  ·simp [hl,List.getElem?_eq_none (Nat.le_of_not_lt hl)]
 ·simp [e]
theorem an {h news:List Ob} {q:Nat}:getOb (h++news) q=if q < h.length then getOb h q else getOb news (q - h.length):=by
 unfold getOb
 simp only [List.getD_eq_getElem?_getD]
 split
 ·rw [List.getElem?_append_left ‹_›]
 ·rw [List.getElem?_append_right (by omega)]
structure Frozen (h h':List Ob) (l:List Nat):Prop where
 len:h'.length=h.length
 same: ∀q,(getOb h' q=getOb h q)\/((getOb h' q).fz=true/\(∃cs m,getOb h q= .box m cs/\getOb h' q= .box .fz cs)\/ ∃sz x m,getOb h q= .arr m sz x/\getOb h' q= .arr .fz sz x)
 mem: ∀q∈l,(getOb h' q).fz=true
theorem Frozen.nil (h:List Ob):Frozen h h []:=⟨rfl,fun _=> .inl rfl,fun q hq=>by simp at hq⟩
theorem Frozen.fzMono {h h':List Ob} {l:List Nat} (f:Frozen h h' l) {q:Nat} (hq:(getOb h q).fz=true):(getOb h' q).fz=true:=by
 rcases f.same q with h1 | ⟨h1,_⟩ | ⟨sz,x,m,h1,h2⟩
 ·rw [h1];exact hq
 ·exact h1
 ·rw [h2];rfl
theorem V3 {h h':List Ob} {o:Nat} (hf:YJ h o=some h'):Frozen h h' [o]:=by
 unfold YJ at hf
 split at hf
 ·rename_i cs hg
  cases hf
  have hl:o < h.length:=iT (by rw [hg];rfl)
  refine ⟨by simp,fun q=> ?_,fun q hq=> ?_⟩
  ·by_cases e:o=q
   ·subst e;right;left;rw [aR,if_pos ⟨rfl,hl⟩];exact ⟨rfl,cs,_,hg,rfl⟩
   ·left;rw [aR,if_neg (by simp [e])]
  ·simp at hq;subst hq;rw [aR,if_pos ⟨rfl,hl⟩];rfl
 ·rename_i n x hg
  cases hf
  have hl:o < h.length:=iT (by rw [hg];rfl)
  refine ⟨by simp,fun q=> ?_,fun q hq=> ?_⟩
  ·by_cases e:o=q
   ·subst e;right;right;rw [aR,if_pos ⟨rfl,hl⟩];exact ⟨n,x,_,hg,rfl⟩
   ·left;rw [aR,if_neg (by simp [e])]
  ·simp at hq;subst hq;rw [aR,if_pos ⟨rfl,hl⟩];rfl
 ·rename_i cs hg
  cases hf
  exact ⟨rfl,fun _=> .inl rfl,fun q hq=>by simp at hq;subst hq;rw [hg];rfl⟩
 ·rename_i n x hg
  cases hf
  exact ⟨rfl,fun _=> .inl rfl,fun q hq=>by simp at hq;subst hq;rw [hg];rfl⟩
 ·cases hf
theorem Frozen.trans {h h1 h2:List Ob} {l k:List Nat} (f:Frozen h h1 l) (g:Frozen h1 h2 k):Frozen h h2 (l++k):=by
 refine ⟨g.len.trans f.len,fun q=> ?_,fun q hq=> ?_⟩
 ·rcases f.same q with e1 | ⟨_,cs,m,a1,a2⟩ | ⟨sz,x,m,a1,a2⟩
  ·rcases g.same q with e2 | ⟨b0,cs,m,b1,b2⟩ | ⟨sz,x,m,b1,b2⟩
   ·left;rw [e2,e1]
   ·right;left;exact ⟨b0,cs,m,by rw [<-e1];exact b1,b2⟩
   ·right;right;exact ⟨sz,x,m,by rw [<-e1];exact b1,b2⟩
  ·rcases g.same q with e2 | ⟨b0,cs',m',b1,b2⟩ | ⟨sz,x,m',b1,b2⟩
   ·right;left;refine ⟨by rw [e2,a2];rfl,cs,m,a1,by rw [e2,a2]⟩
   ·rw [a2] at b1;cases b1;right;left;exact ⟨b0,cs,m,a1,b2⟩
   ·rw [a2] at b1;cases b1
  ·rcases g.same q with e2 | ⟨b0,cs',m',b1,b2⟩ | ⟨sz',x',m',b1,b2⟩
   ·right;right;exact ⟨sz,x,m,a1,by rw [e2,a2]⟩
   ·rw [a2] at b1;cases b1
   ·rw [a2] at b1;cases b1;right;right;exact ⟨sz,x,m,a1,b2⟩
 ·rcases List.mem_append.1 hq with hq | hq
  ·exact g.fzMono (f.mem q hq)
  ·exact g.mem q hq
theorem dx: ∀{l:List Nat} {h h':List Ob},qK h l=some h'->Frozen h h' l
 | [],h,h',hf=>by simp only [qK,Option.some.injEq] at hf;subst hf;exact .nil h
 | o::l,h,h',hf=>by
   simp only [qK] at hf
   cases h1:YJ h o with
   | none=>simp [h1] at hf
   | some h2=>simp only [h1,Option.bind_some] at hf;exact (V3 h1).trans (dx hf)
theorem Frozen.ob {h h':List Ob} {l:List Nat} (f:Frozen h h' l) {w:World} {ok:Nat->Prop} {mu:Mu} {pl:Pl} {q:Nat} (r:ObOk w ok mu pl (getOb h q)):ObOk w ok mu pl (getOb h' q):=by
 rcases f.same q with e | ⟨_,cs,m,a1,a2⟩ | ⟨sz,x,m,a1,a2⟩
 ·rw [e];exact r
 ·rw [a1] at r;rw [a2];exact r
 ·rw [a1] at r;rw [a2];exact r
theorem Frozen.live {h h':List Ob} {l:List Nat} (f:Frozen h h' l) (q:Nat):(getOb h' q).live=(getOb h q).live:=by
 rcases f.same q with e | ⟨_,cs,m,a1,a2⟩ | ⟨sz,x,m,a1,a2⟩
 ·rw [e]
 ·rw [a1,a2];rfl
 ·rw [a1,a2];rfl
theorem Inv.grow {w0:World} {ok0:O0} {w:World} {ok:Nat->Prop} {mu:Mu} {h h1:List Ob} {news:List Ob} {fz:List Nat} {p:PV} {v:Value} {w':World} {ok':Nat->Prop} {mu':Mu} (i:Inv w0 ok0 w ok mu h) (hfresh: ∀q,h.length<=q->mu q=none)
  (hf:Frozen h h1 fz) (g:Grow w ok mu h.length news fz p v w' ok' mu'):Inv w0 ok0 w' ok' mu' (h1++news)/\ ∀q,(h1++news).length<=q->mu' q=none:=by
 have hlater:=g.later i.okw (hfresh _ (Nat.le_refl _))
 have hblk: ∀q pl b base,mu q=some pl->pl.loc=some (b,base)->w'.heap[b]? =w.heap[b]? :=fun q pl b base h1 h2=>g.below.block b (i.own q pl b base h1 h2).2.1
 have hold: ∀q,q≠h.length->getOb (h1++news) q=getOb h1 q\/mu' q=none:=fun q hq=>by
  rw [an]
  split
  ·exact .inl rfl
  ·right;rw [g.same q hq];exact hfresh q (by rw [<-hf.len];omega)
 have hnewOb: ∀pl,mu' h.length=some pl-> ∃ob,news=[ob]/\getOb (h1++news) h.length=ob/\ob.live=true/\ObOk w' ok' mu' pl ob/\ ∀b base,pl.loc=some (b,base)->w.heap.size<=b/\b < w'.heap.size/\ ¬ok' b:=fun pl hm=>by
  rcases g.obs with ⟨rfl,e⟩ | ⟨ob,pl',rfl,e,hl,hob,hb⟩
  ·rw [e,hfresh _ (Nat.le_refl _)] at hm;cases hm
  ·rw [e] at hm;cases hm
   refine ⟨ob,rfl,?_,hl,hob,hb⟩
   rw [an,if_neg (by rw [hf.len];omega),hf.len];simp [getOb]
 refine ⟨⟨i.below.trans (g.below.mono i.below.size),fun b hb=> ?_,fun b hb=> ?_,fun q pl hm=> ?_,fun q pl b base hm hl=> ?_,fun q q' pl pl' b base base' hm hm' hl hl' h1' h2'=> ?_⟩,fun q hq=> ?_⟩
 ·rcases g.new b hb with h | ⟨_,h⟩ | ⟨o,_,pl,base,h1,h2⟩
  ·exact Nat.lt_of_lt_of_le (i.okw b h) g.below.size
  ·exact h
  ·exact Nat.lt_of_lt_of_le (i.own o pl b base h1 h2).2.1 g.below.size
 ·rcases g.new b hb with h | ⟨h,_⟩ | ⟨o,_,pl,base,h1,h2⟩
  ·exact i.okb b h
  ·exact .inr (.inl (Nat.le_trans i.below.size h))
  ·exact .inr (i.own o pl b base h1 h2).1
 ·by_cases hq:q=h.length
  ·subst hq
   obtain ⟨ob,_,e,_,hob,_⟩:=hnewOb pl hm
   rw [e];exact hob
  ·have hm0:mu q=some pl:=by rw [<-g.same q hq];exact hm
   rcases hold q hq with e | e
   ·rw [e];exact (hf.ob (i.ob q pl hm0)).later hlater fun b base hl=>hblk q pl b base hm0 hl
   ·rw [e] at hm;cases hm
 ·by_cases hq:q=h.length
  ·subst hq
   obtain ⟨ob,_,e,_,hob,hb⟩:=hnewOb pl hm
   obtain ⟨h1,h2,h3⟩:=hb b base hl
   exact ⟨.inl (Nat.le_trans i.below.size h1),h2,fun _ _=>h3⟩
  ·have hm0:mu q=some pl:=by rw [<-g.same q hq];exact hm
   obtain ⟨ha,hb',h3⟩:=i.own q pl b base hm0 hl
   refine ⟨ha,Nat.lt_of_lt_of_le hb' g.below.size,fun hlive hnf hok=> ?_⟩
   rcases hold q hq with e | e
   ·rw [e] at hlive hnf
    rw [hf.live] at hlive
    have hnf0:(getOb h q).fz=false:=by
     cases hz:(getOb h q).fz with
     | false=>rfl
     | true=>rw [hf.fzMono hz] at hnf;cases hnf
    rcases g.new b hok with hb | ⟨hb,_⟩ | ⟨o,ho,pl',base',hm',hl'⟩
    ·exact h3 hlive hnf0 hb
    ·omega
    ·have hol:(getOb h o).live=true:=by
      have:=hf.mem o ho
      rw [<-hf.live]
      cases hg:getOb h1 o<;>rw [hg] at this<;>first | rfl | cases this
     have:=i.inj q o pl pl' b base base' hm0 hm' hl hl' hlive hol
     subst this
     rw [hf.mem q ho] at hnf;cases hnf
   ·rw [e] at hm;cases hm
 ·by_cases hq:q=h.length
  ·by_cases hq':q'=h.length
   ·omega
   ·subst hq
    obtain ⟨ob,_,_,_,_,hb⟩:=hnewOb pl hm
    have hm0:mu q'=some pl':=by rw [<-g.same q' hq'];exact hm'
    have:=(hb b base hl).1
    have:=(i.own q' pl' b base' hm0 hl').2.1
    omega
  ·have hm0:mu q=some pl:=by rw [<-g.same q hq];exact hm
   by_cases hq':q'=h.length
   ·subst hq'
    obtain ⟨ob,_,_,_,_,hb⟩:=hnewOb pl' hm'
    have:=(hb b base' hl').1
    have:=(i.own q pl b base hm0 hl).2.1
    omega
   ·have hm0':mu q'=some pl':=by rw [<-g.same q' hq'];exact hm'
    rcases hold q hq with e | e
    ·rcases hold q' hq' with e' | e'
     ·rw [e,hf.live] at h1'
      rw [e',hf.live] at h2'
      exact i.inj q q' pl pl' b base base' hm0 hm0' hl hl' h1' h2'
     ·rw [e'] at hm';cases hm'
    ·rw [e] at hm;cases hm
 ·have hq':q≠h.length\/news=[]:=by
   rcases g.obs with ⟨rfl,_⟩ | ⟨ob,_,rfl,_⟩
   ·exact .inr rfl
   ·left;simp [hf.len] at hq;omega
  rcases hq' with hq' | rfl
  ·rw [g.same q hq'];exact hfresh q (by simp [hf.len] at hq;omega)
  ·by_cases he:q=h.length
   ·subst he
    rcases g.obs with ⟨_,e⟩ | ⟨ob,_,e,_⟩
    ·rw [e];exact hfresh _ (Nat.le_refl _)
    ·cases e
   ·rw [g.same q he];exact hfresh q (by simp [hf.len] at hq;omega)
def pX (P:Program) (w0:World) (ok0:O0) (o:Oper) (a:Act) (w:World) (ok:Nat->Prop) (mu:Mu) (p:PV) (h':List Ob):Prop:=
 fI P o a w fun v w'=> ∃ok' mu',Later w ok mu w' ok' mu'/\Inv w0 ok0 w' ok' mu' h'/\RP w' ok' mu' p v/\ ∀q,h'.length<=q->mu' q=none
theorem aq.m {P:Program} {w0:World} {ok0:O0} {o:Oper} {a:Act} {w:World} {ok:Nat->Prop} {mu:Mu} {h:List Ob} {p:PV} {h':List Ob} (q:aq P o a w ok mu h p h') (i:Inv w0 ok0 w ok mu h) (hfresh: ∀q,h.length<=q->mu q=none):pX P w0 ok0 o a w ok mu p h':=by
 obtain ⟨news,fz,h1,hfz,rfl,hd⟩:=q
 refine hd.mono fun v w' ⟨ok',mu',g⟩=> ?_
 obtain ⟨h2,h3⟩:=i.grow hfresh (dx hfz) g
 exact ⟨ok',mu',g.later i.okw (hfresh _ (Nat.le_refl _)),h2,g.rp,h3⟩
end Go.AM
namespace Go.AM
open Go.RowKit
structure Wrote (w w':World) (b:Nat) (c c':Array Value) (T:TypeId):Prop where
 os:w'.os=w.os
 tape:w'.tape=w.tape
 output:w'.output=w.output
 size:w'.heap.size=w.heap.size
 other: ∀b',b'≠b->w'.heap[b']? =w.heap[b']?
 was:w.heap[b]? =some (.cells c T (0,0))
 now:w'.heap[b]? =some (.cells c' T (0,0))
 csize:c'.size=c.size
theorem cq {w:World} {b:Nat} {c c':Array Value} {T:TypeId} (hw:w.heap[b]? =some (.cells c T (0,0))) (hs:c'.size=c.size):Wrote w (w.setRow b c') b c c' T:=by
 refine ⟨rfl,rfl,rfl,by simp [World.setRow],fun b' hb=> ?_,hw,setRow_heap w b c c' T (0,0) hw,hs⟩
 unfold World.setRow
 simp only [Array.getElem?_modify]
 rw [if_neg (fun e=>hb e.symm)]
section
variable {w0:World} {ok0:O0} {w w':World} {ok:Nat->Prop} {mu:Mu} {h:List Ob} {b:Nat} {c c':Array Value} {T:TypeId}
theorem Wrote.below (r:Wrote w w' b c c' T) (i:BelowM ok0.lent w0.heap.size w0 w) (hb:Own0 w0 ok0 b):BelowM ok0.lent w0.heap.size w0 w':=
 ⟨r.os.trans i.os,r.tape.trans i.tape,r.output.trans i.output,by rw [r.size];exact i.size,fun k hk hm=>(r.other k (hb.ne hk hm)).trans (i.block k hk hm)⟩
theorem Wrote.later (r:Wrote w w' b c c' T) (hok: ¬ok b) {mu':Mu} (hm: ∀o pl,mu o=some pl->mu' o=some pl):Later w ok mu w' ok mu':=by
 refine ⟨⟨fun b' hb'=>r.other b' (fun e=>hok (e▸hb')),fun _ h=>h⟩,hm,fun b' c1 T1 z1 h1=> ?_⟩
 by_cases e:b'=b
 ·subst e
  rw [r.was] at h1;cases h1
  exact ⟨c',_,r.now,r.csize⟩
 ·exact ⟨c1,z1,by rw [r.other b' e];exact h1,rfl⟩
theorem Inv.write (i:Inv w0 ok0 w ok mu h) (hfresh: ∀q,h.length<=q->mu q=none) {o:Nat} {pl:Pl} {base:Nat} (hm:mu o=some pl) (hl:pl.loc=some (b,base)) (hlive:(getOb h o).live=true) (hnf:(getOb h o).fz=false) (r:Wrote w w' b c c' T)
  {ob:Ob} (hob:ObOk w' ok mu pl ob) (holive:ob.live=true):Inv w0 ok0 w' ok mu (h.set o ob)/\Later w ok mu w' ok mu/\ ∀q,(h.set o ob).length<=q->mu q=none:=by
 obtain ⟨hb0,hb1,hnok⟩:=i.own o pl b base hm hl
 have hok:=hnok hlive hnf
 have hol:o < h.length:=iT hlive
 have hlater:=r.later (mu:=mu) (mu':=mu) hok (fun _ _ h=>h)
 refine ⟨⟨r.below i.below hb0,fun b' hb=>by rw [r.size];exact i.okw b' hb,i.okb,fun q plq hmq=> ?_,fun q plq b' base' hmq hlq=> ?_,fun q q' plq plq' b' bs bs' h1 h2 h3 h4 h5 h6=> ?_⟩,hlater,fun q hq=>hfresh q (by simpa using hq)⟩
 ·rw [aR]
  split
  ·rename_i e;obtain ⟨rfl,_⟩:=e;rw [hm] at hmq;cases hmq;exact hob
  ·rename_i e
   by_cases hlq:(getOb h q).live=true
   ·refine (i.ob q plq hmq).later hlater fun b' base' hlb=>r.other b' fun e'=> ?_
    subst e'
    have:=i.inj q o plq pl b' base' base hmq hm hlb hl hlq hlive
    exact e ⟨this.symm,hol⟩
   ·have:getOb h q= .dead:=by cases hg:getOb h q<;>rw [hg] at hlq<;>first | rfl | exact absurd rfl hlq
    rw [this];trivial
 ·obtain ⟨g1,g2,g3⟩:=i.own q plq b' base' hmq hlq
  refine ⟨g1,by rw [r.size];exact g2,fun hlv hnz=> ?_⟩
  rw [aR] at hlv hnz
  split at hlv
  ·rename_i e;obtain ⟨rfl,_⟩:=e;exact g3 hlive hnf
  ·rename_i e;rw [if_neg e] at hnz;exact g3 hlv hnz
 ·have hback: ∀q,(getOb (h.set o ob) q).live=true->(getOb h q).live=true:=fun q hq=>by
   rw [aR] at hq
   split at hq
   ·rename_i e;obtain ⟨rfl,_⟩:=e;exact hlive
   ·exact hq
  exact i.inj q q' plq plq' b' bs bs' h1 h2 h3 h4 (hback q h5) (hback q' h6)
theorem j8: ∀(l:List Nat) (h:List Ob) (o:Nat),getOb (kill h l) o=if o∈l then .dead else getOb h o
 | [],h,o=>by simp [kill]
 | x::l,h,o=>by
   simp only [kill]
   rw [j8 l]
   by_cases e:o∈l
   ·simp [e]
   ·rw [if_neg e,aR]
    by_cases ex:x=o
    ·subst ex
     by_cases hl:x < h.length
     ·simp [hl]
     ·simp [hl]
      unfold getOb;rw [List.getD_eq_getElem?_getD,List.getElem?_eq_none (Nat.le_of_not_lt hl)];rfl
    ·simp [ex,Ne.symm ex,e]
theorem dQ: ∀(l:List Nat) (h:List Ob),(kill h l).length=h.length
 | [],_=>rfl
 | x::l,h=>by simp only [kill];rw [dQ l];simp
theorem Inv.lentout (i:Inv w0 ok0 w ok mu h) {os:List Nat} {ok':Nat->Prop} (hos: ∀q∈os,(getOb h q).live=true/\(getOb h q).fz=false)
  (h1:w'.os=w.os) (h2:w'.tape=w.tape) (h3:w'.output=w.output) (hsz:w.heap.size<=w'.heap.size) (hsizes:Sizes w w')
  (hother: ∀b,b < w.heap.size->(∀q∈os,∀pl base,mu q=some pl->pl.loc≠some (b,base))->w'.heap[b]? =w.heap[b]?) (hok1: ∀b,ok b->ok' b)
  (hok2: ∀b,ok' b->ok b\/(w.heap.size<=b/\b < w'.heap.size)\/ ∃q∈os,∃pl base,mu q=some pl/\pl.loc=some (b,base)):
  Inv w0 ok0 w' ok' mu (kill h os)/\Later w ok mu w' ok' mu:=by
 have hlater:Later w ok mu w' ok' mu:=⟨⟨fun b hb=>hother b (i.okw b hb) fun q hq pl base hm hl=>(i.own q pl b base hm hl).2.2 (hos q hq).1 (hos q hq).2 hb,hok1⟩,fun _ _ h=>h,hsizes⟩
 have hlv: ∀o,(getOb (kill h os) o).live=true->o∉os/\getOb (kill h os) o=getOb h o:=fun o ho=>by
  rw [j8] at ho ⊢
  split at ho
  ·cases ho
  ·rename_i e;exact ⟨e,by rw [if_neg e]⟩
 refine ⟨⟨⟨h1.trans i.below.os,h2.trans i.below.tape,h3.trans i.below.output,Nat.le_trans i.below.size hsz,fun k hk hm=>(hother k (Nat.lt_of_lt_of_le hk i.below.size) fun q hq pl base hmq hl=>(i.own q pl k base hmq hl).1.ne hk hm rfl).trans (i.below.block k hk hm)⟩,fun b hb=> ?_,fun b hb=> ?_,fun o pl ho=> ?_,fun o pl b base ho hl=> ?_,fun o o' pl pl' b base base' ho ho' hb hb' g1 g2=> ?_⟩,hlater⟩
 ·rcases hok2 b hb with g | g | ⟨q,_,pl,base,g1,g2⟩
  ·exact Nat.lt_of_lt_of_le (i.okw b g) hsz
  ·exact g.2
  ·exact Nat.lt_of_lt_of_le (i.own q pl b base g1 g2).2.1 hsz
 ·rcases hok2 b hb with g | g | ⟨q,_,pl,base,g1,g2⟩
  ·exact i.okb b g
  ·exact .inr (.inl (Nat.le_trans i.below.size g.1))
  ·exact .inr (i.own q pl b base g1 g2).1
 ·cases hx:(getOb (kill h os) o).live with
  | false=>
    have:getOb (kill h os) o= .dead:=by cases hg:getOb (kill h os) o<;>rw [hg] at hx<;>first | rfl | cases hx
    rw [this];trivial
  | true=>
    obtain ⟨g1,g2⟩:=hlv o hx
    rw [g2] at hx ⊢
    refine (i.ob o pl ho).later hlater fun b base hl=>hother b (i.own o pl b base ho hl).2.1 fun q hq plq base' hmq hlq=> ?_
    exact g1 (i.inj o q pl plq b base base' ho hmq hl hlq hx (hos q hq).1▸hq)
 ·obtain ⟨g1,g2,g3⟩:=i.own o pl b base ho hl
  refine ⟨g1,Nat.lt_of_lt_of_le g2 hsz,fun hv hn hok=> ?_⟩
  obtain ⟨g4,g5⟩:=hlv o hv
  rw [g5] at hv hn
  rcases hok2 b hok with g | g | ⟨q,hq,plq,base',hmq,hlq⟩
  ·exact g3 hv hn g
  ·omega
  ·exact g4 (i.inj o q pl plq b base base' ho hmq hl hlq hv (hos q hq).1▸hq)
 ·obtain ⟨_,e1⟩:=hlv o g1
  obtain ⟨_,e2⟩:=hlv o' g2
  rw [e1] at g1;rw [e2] at g2
  exact i.inj o o' pl pl' b base base' ho ho' hb hb' g1 g2
theorem Inv.revive (i:Inv w0 ok0 w ok mu h) {o:Nat} {pl:Pl} (hm:mu o=some pl) (ho:o < h.length) {ob:Ob} (hob:ObOk w ok mu pl ob) (hok: ∀b base,pl.loc=some (b,base)-> ¬ok b)
  (hfree: ∀b base q plq base',q≠o->mu q=some plq->pl.loc=some (b,base)->plq.loc=some (b,base')->(getOb h q).live=false):Inv w0 ok0 w ok mu (h.set o ob):=by
 refine ⟨i.below,i.okw,i.okb,fun q plq hq=> ?_,fun q plq b base hq hl=> ?_,fun q q' plq plq' b bs bs' h1 h2 h3 h4 h5 h6=> ?_⟩
 ·rw [aR]
  split
  ·rename_i e;obtain ⟨rfl,_⟩:=e;rw [hm] at hq;cases hq;exact hob
  ·exact i.ob q plq hq
 ·obtain ⟨g1,g2,g3⟩:=i.own q plq b base hq hl
  refine ⟨g1,g2,fun hv hn=> ?_⟩
  rw [aR] at hv hn
  split at hv
  ·rename_i e;obtain ⟨rfl,_⟩:=e;rw [hm] at hq;cases hq;exact hok b base hl
  ·rename_i e;rw [if_neg e] at hn;exact g3 hv hn
 ·rw [aR] at h5 h6
  by_cases e:q=o<;>by_cases e':q'=o
  ·rw [e,e']
  ·rw [if_neg (fun x=>e' x.1.symm)] at h6
   subst e;rw [hm] at h1;cases h1
   rw [hfree b bs q' plq' bs' e' h2 h3 h4] at h6;cases h6
  ·rw [if_neg (fun x=>e x.1.symm)] at h5
   subst e';rw [hm] at h2;cases h2
   rw [hfree b bs' q plq bs e h1 h4 h3] at h5;cases h5
  ·rw [if_neg (fun x=>e x.1.symm)] at h5
   rw [if_neg (fun x=>e' x.1.symm)] at h6
   exact i.inj q q' plq plq' b bs bs' h1 h2 h3 h4 h5 h6
theorem Inv.add (i:Inv w0 ok0 w ok mu h) (hfresh: ∀q,h.length<=q->mu q=none) {ob:Ob} {pl:Pl} (hob:ObOk w ok (fun q=>if q=h.length then some pl else mu q) pl ob)
  (hloc: ∀b base,pl.loc=some (b,base)->Own0 w0 ok0 b/\b < w.heap.size/\ ¬ok b/\ ∀o pl' base',mu o=some pl'->pl'.loc=some (b,base')->(getOb h o).live=false):
  Inv w0 ok0 w ok (fun q=>if q=h.length then some pl else mu q) (h++[ob])/\(∀q,(h++[ob]).length<=q->(fun q=>if q=h.length then some pl else mu q) q=none)/\Later w ok mu w ok (fun q=>if q=h.length then some pl else mu q):=by
 have hl:Later w ok mu w ok (fun q=>if q=h.length then some pl else mu q):=⟨.refl _ _,fun o pl' ho=>by
  have:o≠h.length:=fun e=>by rw [e,hfresh _ (Nat.le_refl _)] at ho;cases ho
  simp [this,ho],.refl _⟩
 have hlt: ∀{o pl'},mu o=some pl'->o < h.length:=fun {o pl'} ho=>by
  rcases Nat.lt_or_ge o h.length with h1 | h1
  ·exact h1
  ·rw [hfresh o h1] at ho;cases ho
 have hget: ∀{o},o < h.length->getOb (h++[ob]) o=getOb h o:=fun {o} ho=>by rw [an,if_pos ho]
 have hnew:getOb (h++[ob]) h.length=ob:=by rw [an,if_neg (by omega),Nat.sub_self];rfl
 have hcase: ∀o pl',(if o=h.length then some pl else mu o)=some pl'->(o=h.length/\pl'=pl)\/(mu o=some pl'):=fun o pl' ho=>by
  split at ho
  ·cases ho;exact .inl ⟨‹_›,rfl⟩
  ·exact .inr ho
 refine ⟨⟨i.below,i.okw,i.okb,fun o pl' ho=> ?_,fun o pl' b base ho hb=> ?_,fun o o' pl' pl2 b base base' ho ho' hb hb' hlv hlv'=> ?_⟩,fun q hq=> ?_,hl⟩
 ·rcases hcase o pl' ho with ⟨rfl,rfl⟩ | h1
  ·rw [hnew];exact hob
  ·rw [hget (hlt h1)];exact (i.ob o pl' h1).later hl fun _ _ _=>rfl
 ·rcases hcase o pl' ho with ⟨rfl,rfl⟩ | h1
  ·obtain ⟨h2,h3,h4,_⟩:=hloc b base hb
   exact ⟨h2,h3,fun _ _=>h4⟩
  ·rw [hget (hlt h1)];exact i.own o pl' b base h1 hb
 ·rcases hcase o pl' ho with ⟨rfl,rfl⟩ | h1<;>rcases hcase o' pl2 ho' with ⟨rfl,rfl⟩ | h1'
  ·rfl
  ·have:=(hloc b base hb).2.2.2 o' pl2 base' h1' hb'
   rw [hget (hlt h1'),this] at hlv';cases hlv'
  ·have:=(hloc b base' hb').2.2.2 o pl' base h1 hb
   rw [hget (hlt h1),this] at hlv;cases hlv
  ·rw [hget (hlt h1)] at hlv
   rw [hget (hlt h1')] at hlv'
   exact i.inj o o' pl' pl2 b base base' h1 h1' hb hb' hlv hlv'
 ·simp only [List.length_append,List.length_cons,List.length_nil] at hq
  have:q≠h.length:=by omega
  simp only [this,if_false]
  exact hfresh q (by omega)
theorem Inv.swap (i:Inv w0 ok0 w ok mu h) (hfresh: ∀q,h.length<=q->mu q=none) {o:Nat} {pl:Pl} (hm:mu o=some pl) (hlive:(getOb h o).live=true) {npl:Pl} (hlater:Later w ok mu w' ok (fun q=>if q=h.length then some npl else mu q))
  (hbelow:BelowM ok0.lent w0.heap.size w0 w') (hsz:w.heap.size<=w'.heap.size) (hother: ∀b',b' < w.heap.size->(∀base,pl.loc≠some (b',base))->w'.heap[b']? =w.heap[b']?)
  {ob:Ob} (holive:ob.live=true) (hob:ObOk w' ok (fun q=>if q=h.length then some npl else mu q) npl ob) (hnpl: ∀b base,npl.loc=some (b,base)->(w.heap.size<=b/\b < w'.heap.size/\ ¬ok b)\/(∃base',pl.loc=some (b,base')/\ ¬ok b)):
  Inv w0 ok0 w' ok (fun q=>if q=h.length then some npl else mu q) (h.set o .dead++[ob])/\ ∀q,(h.set o .dead++[ob]).length<=q->(fun q=>if q=h.length then some npl else mu q) q=none:=by
 have hol:o < h.length:=iT hlive
 have hnew:getOb (h.set o .dead++[ob]) h.length=ob:=by rw [an,if_neg (by simp)];simp [getOb]
 have hold: ∀q,q≠h.length->q≠o->getOb (h.set o .dead++[ob]) q=getOb h q\/mu q=none:=fun q h1 h2=>by
  rw [an]
  split
  ·left;rw [aR,if_neg (fun e=>h2 e.1.symm)]
  ·right;exact hfresh q (by simp at*;omega)
 have hdead:getOb (h.set o .dead++[ob]) o= .dead:=by rw [an,if_pos (by simpa using hol),aR,if_pos ⟨rfl,hol⟩]
 have hmu: ∀q plq,q≠h.length->(fun q=>if q=h.length then some npl else mu q) q=some plq->mu q=some plq:=fun q plq hq h1=>by simpa [hq] using h1
 refine ⟨⟨hbelow,fun b' hb=>Nat.lt_of_lt_of_le (i.okw b' hb) hsz,i.okb,fun q plq hmq=> ?_,fun q plq b' base' hmq hlq=> ?_,fun q q' plq plq' b' bs bs' h1 h2 h3 h4 h5 h6=> ?_⟩,fun q hq=> ?_⟩
 ·by_cases hq:q=h.length
  ·subst hq;simp at hmq;subst hmq;rw [hnew];exact hob
  ·have hm0:=hmu q plq hq hmq
   by_cases hqo:q=o
   ·subst hqo;rw [hdead];trivial
   ·rcases hold q hq hqo with e | e
    ·rw [e]
     by_cases hlq:(getOb h q).live=true
     ·refine (i.ob q plq hm0).later hlater fun b' base' hlb=>hother b' (i.own q plq b' base' hm0 hlb).2.1 fun base hpl=> ?_
      exact hqo (i.inj q o plq pl b' base' base hm0 hm hlb hpl hlq hlive)
     ·have:getOb h q= .dead:=by cases hg:getOb h q<;>rw [hg] at hlq<;>first | rfl | exact absurd rfl hlq
      rw [this];trivial
    ·rw [e] at hm0;cases hm0
 ·by_cases hq:q=h.length
  ·subst hq;simp at hmq;subst hmq
   rcases hnpl b' base' hlq with ⟨g1,g2,g3⟩ | ⟨base2,g1,g2⟩
   ·exact ⟨.inl (Nat.le_trans i.below.size g1),g2,fun _ _=>g3⟩
   ·obtain ⟨k1,k2,_⟩:=i.own o pl b' base2 hm g1
    exact ⟨k1,Nat.lt_of_lt_of_le k2 hsz,fun _ _=>g2⟩
  ·have hm0:=hmu q plq hq hmq
   obtain ⟨g1,g2,g3⟩:=i.own q plq b' base' hm0 hlq
   refine ⟨g1,Nat.lt_of_lt_of_le g2 hsz,fun hlv hnz=> ?_⟩
   by_cases hqo:q=o
   ·subst hqo;rw [hdead] at hlv;cases hlv
   ·rcases hold q hq hqo with e | e
    ·rw [e] at hlv hnz;exact g3 hlv hnz
    ·rw [e] at hm0;cases hm0
 ·have hcase: ∀q plq bs,(fun q=>if q=h.length then some npl else mu q) q=some plq->plq.loc=some (b',bs)->(getOb (h.set o .dead++[ob]) q).live=true->q=h.length\/(q≠h.length/\q≠o/\mu q=some plq/\(getOb h q).live=true):=fun q plq bs g1 g2 g3=>by
   by_cases hq:q=h.length
   ·exact .inl hq
   ·right
    have hm0:=hmu q plq hq g1
    by_cases hqo:q=o
    ·subst hqo;rw [hdead] at g3;cases g3
    ·refine ⟨hq,hqo,hm0,?_⟩
     rcases hold q hq hqo with e | e
     ·rw [e] at g3;exact g3
     ·rw [e] at hm0;cases hm0
  have hclash: ∀q plq bs bs2,q≠h.length->q≠o->mu q=some plq->(getOb h q).live=true->plq.loc=some (b',bs)->npl.loc=some (b',bs2)->False:=fun q plq bs bs2 g1 g2 g3 g4 g5 g6=>by
   rcases hnpl b' bs2 g6 with ⟨k1,_,_⟩ | ⟨base2,k1,_⟩
   ·have:=(i.own q plq b' bs g3 g5).2.1;omega
   ·exact g2 (i.inj q o plq pl b' bs base2 g3 hm g5 k1 g4 hlive)
  rcases hcase q plq bs h1 h3 h5 with rfl | ⟨a1,a2,a3,a4⟩
  ·simp at h1;subst h1
   rcases hcase q' plq' bs' h2 h4 h6 with rfl | ⟨a1,a2,a3,a4⟩
   ·rfl
   ·exact (hclash q' plq' bs' bs a1 a2 a3 a4 h4 h3).elim
  ·rcases hcase q' plq' bs' h2 h4 h6 with rfl | ⟨c1,c2,c3,c4⟩
   ·simp at h2;subst h2
    exact (hclash q plq bs bs' a1 a2 a3 a4 h3 h4).elim
   ·exact i.inj q q' plq plq' b' bs bs' a3 c3 h3 h4 a4 c4
 ·have:q≠h.length:=by simp at hq;omega
  simp only [this,if_false]
  exact hfresh q (by simp at hq;omega)
end
section
variable {P:Program} {w0:World} {ok0:O0} {o:Oper} {a:Act} {w:World} {ok:Nat->Prop} {mu:Mu} {h:List Ob} {fr:List PV}
theorem PG {c:Call} (hop:o.op= .call c) (hc:c.callee= .builtin .append) {x y:Operand} (hargs:c.args= #[x,y]) (hat:c.argTypes.size=2) (h0:bo P (c.argTypes.getD 0 0)=true) (h1:bo P (c.argTypes.getD 1 0)=true) (hel:kM P (aU P (c.argTypes.getD 0 0))=true)
  (i:Inv w0 ok0 w ok mu h) (hfresh: ∀q,h.length<=q->mu q=none) (rx:RP w ok mu (ev fr x) (a.eval x)) (ry:RP w ok mu (ev fr y) (a.eval y)) {q l u:Nat} {x0:IV} (hg:getOb h q= .arr .rw (P.cellsOf (aU P (c.argTypes.getD 0 0))) x0)
  (hx:(ev fr x= .sub q l u/\True)\/(∃n,ev fr x= .buf q n/\l=0/\u=n)) {x1 s z:IV} (hx1:x1=ze x0 l u) (hs:lR h (ev fr y)=some s) (hz:lY (P.cellsOf (aU P (c.argTypes.getD 0 0))) (P.bytesOf (aU P (c.argTypes.getD 0 0))) x1 s=some z):
  pX P w0 ok0 o a w ok mu (.buf h.length (bQ z)) (h.set q .dead++[.arr .rw (P.cellsOf (aU P (c.argTypes.getD 0 0))) z]):=by
 obtain ⟨e,hu,he⟩:=dR h0
 obtain ⟨e1,hu1,_⟩:=dR h1
 rw [he] at hel hz hg ⊢
 obtain ⟨ii,zz,hi,hzz,hzs,hpos,hsz,hbt⟩:=e8 hel
 obtain ⟨es,ys,hes,rfl,rfl,hby,hall⟩:=LW hz
 obtain ⟨A',cap',vs,hy,hrows,hcells⟩:=nG i.q ry hs hpos hall
 have hex:=Eb (a:=a) hop hc hargs
 have hat2:=CY hat
 have hhdr: ∃A cap pl,a.eval x= .slice A (u - l) cap/\mu q=some pl/\l<=u/\u<=pl.len/\Hdr pl l (u - l) cap A/\ ∀b base,pl.loc=some (b,base)-> ∃(c:Array Value) (T:TypeId) (z:Nat×Nat),w.heap[b]? =some (.cells c T z)/\base+(l+cap)*pl.sz<=c.size:=by
  rcases hx with ⟨hx,_⟩ | ⟨n,hx,rfl,rfl⟩
  ·rw [hx] at rx
   generalize a.eval x=v at rx
   cases rx with
   | sub q l u A cap pl hm hl hn hh hc=>exact ⟨A,cap,pl,rfl,hm,hl,hn,hh,hc⟩
  ·rw [hx] at rx
   generalize a.eval x=v at rx
   cases rx with
   | buf q n A cap pl hm hn hh hc=>exact ⟨A,cap,pl,by simp,hm,by omega,by omega,by simpa using hh,fun b base hl=>by simpa using hc b base hl⟩
 obtain ⟨A,cap,pl,hxv,hm,hlu,hul,hh,hcap⟩:=hhdr
 rw [hxv,hy] at hex
 have hob:=i.ob q pl hm
 rw [hg] at hob
 obtain ⟨hps,es0,rfl,hlen0,hall0,hnone0,hc0⟩:=hob.arrC hcap
 rw [Bo] at hx1
 have hese:es=(es0.drop l).take (u - l):=by rw [hx1] at hes;cases hes;rfl
 have hesl:es.length=u - l:=by rw [hese];simp;omega
 have hesall: ∀e'∈es,e'.length=P.cellsOf e:=fun e' hm'=>hall0 e' (by rw [hese] at hm';exact List.mem_of_mem_drop (List.mem_of_mem_take hm'))
 have hallz: ∀e'∈es++ys,e'.length=P.cellsOf e:=fun e' hm'=>by
  rcases List.mem_append.1 hm' with h | h
  ·exact hesall e' h
  ·exact hall e' h
 have hlive:(getOb h q).live=true:=by rw [hg];rfl
 have hnf:(getOb h q).fz=false:=by rw [hg];rfl
 have hzl:bQ (.lst (es++ys))=es.length+ys.length:=by simp [bQ]
 have hlaterA: ∀(ob:Obj) (npl:Pl),Later w ok mu (w.drew.alloc ob) ok (fun q=>if q=h.length then some npl else mu q):=fun ob npl=>by
  have:=Dm (w:=w.drew) (ok:=ok) (mu:=mu) (n:=h.length) (pl:=npl) ob i.okw (hfresh _ (Nat.le_refl _))
  exact ⟨⟨this.keeps.block,this.keeps.more⟩,this.mu,this.sizes⟩
 have hold: ∃us,Rows w ok es (P.cellsOf e) us/\(0 < es.length-> ∃ad,A=some ad/\ ∀q u,us[q]? =some u->w.cell? (ad.add q)=some u):=by
  have hsrc:lR h (.sub q l u)=some (.lst es):=by simp [lR,hg,Bo,hese]
  have hr:RP w ok mu (.sub q l u) (.slice A (u - l) cap):= .sub q l u A cap pl hm hlu hul hh hcap
  obtain ⟨A2,cap2,us,hv,h1,h2⟩:=nG i.q hr hsrc hpos hesall
  obtain ⟨rfl,_,rfl⟩:=Value.slice.inj hv
  exact ⟨us,h1,h2⟩
 obtain ⟨us,hus,huc⟩:=hold
 by_cases hfit:es.length+ys.length<=cap
 ·
  rcases hh.2 with ⟨hn0,hc00⟩ | ⟨b,base,hb,hA⟩
  ·
   have hy0:ys.length=0:=by omega
   have:ys=[]:=List.length_eq_zero_iff.1 hy0
   subst this
   have he0:es=[]:=List.length_eq_zero_iff.1 (by omega)
   subst he0
   refine fI.value (w':=w) (by rw [hex];exact eU (xh hat2 hu hu1 hpos (by have:=hesl;simp at this;omega))) ?_
   have hl2:Later w ok mu w ok (fun q=>if q=h.length then some ⟨none,0,P.cellsOf e⟩ else mu q):=⟨.refl _ _,fun q' pl' hq'=>by
    have:q'≠h.length:=fun e'=>by rw [e',hfresh _ (Nat.le_refl _)] at hq';cases hq'
    simpa [this] using hq',.refl _⟩
   obtain ⟨g1,g2⟩:=i.swap hfresh hm hlive (npl:=⟨none,0,P.cellsOf e⟩) hl2 i.below (Nat.le_refl _) (fun _ _ _=>rfl) (ob:= .arr .rw (P.cellsOf e) (.lst ([]++[]))) rfl (.inl ⟨by assumption,rfl,[],rfl,rfl,by simp,fun _=>rfl,fun b base hb=>(by cases hb)⟩) (fun b base hb=>by cases hb)
   refine ⟨ok,_,hl2,g1,?_,g2⟩
   have hcap0:cap=0:=hc00
   subst hcap0
   have hul0:u - l=0:=hn0
   rw [hul0]
   exact .buf _ _ A 0 ⟨none,0,P.cellsOf e⟩ (by simp) (by simp [bQ]) ⟨Nat.le_refl _,.inl ⟨by simp [bQ],rfl⟩⟩ fun b base hb=>(by cases hb)
  ·obtain ⟨c1,T,z1,hw,hroom⟩:=hcap b base hb
   obtain ⟨c1',T',hw0,_⟩:=hc0 b base hb
   rw [hw0] at hw;cases hw
   have hw:=hw0
   have hnok:=(i.own q pl b base hm hb).2.2 hlive hnf
   have hoff:base+l*pl.sz+es.length*P.cellsOf e+vs.length<=c1.size:=by
    rw [hrows.1,hps]
    rw [hps] at hroom
    have h1:es.length*P.cellsOf e+ys.length*P.cellsOf e<=cap*P.cellsOf e:=by rw [<-Nat.add_mul];exact Nat.mul_le_mul_right _ hfit
    have h2:(l+cap)*P.cellsOf e=l*P.cellsOf e+cap*P.cellsOf e:=Nat.add_mul _ _ _
    omega
   have hrun:=wy (P:=P) (w:=w) (ty:=o.type) hat2 hu hu1 hpos (n:=u - l) (cap:=cap) (m:=ys.length) (cap':=cap') hrows.1 hcells hrows.2.1 (by omega) hA hw (by rw [<-hesl];exact hoff)
   rw [<-hesl] at hrun
   refine fI.value (by rw [hex,<-hesl];exact eU hrun) ?_
   generalize hN:base+l*pl.sz+es.length*P.cellsOf e=N at*
   have hlen':(c1.toList.take N++vs++c1.toList.drop (N+vs.length)).toArray.size=c1.size:=by simp;omega
   have hwr:=cq (c':=(c1.toList.take N++vs++c1.toList.drop (N+vs.length)).toArray) hw hlen'
   generalize hnpl:(⟨some (b,base+l*pl.sz),es.length+ys.length,P.cellsOf e⟩:Pl)=npl
   have hl2:Later w ok mu (w.setRow b (c1.toList.take N++vs++c1.toList.drop (N+vs.length)).toArray) ok (fun q=>if q=h.length then some npl else mu q):=hwr.later hnok fun q' pl' hq'=>by
    have:q'≠h.length:=fun e'=>by rw [e',hfresh _ (Nat.le_refl _)] at hq';cases hq'
    simpa [this] using hq'
   have hnewrows:Rows (w.setRow b (c1.toList.take N++vs++c1.toList.drop (N+vs.length)).toArray) ok (es++ys) (P.cellsOf e) (us++vs):=(hus.append hrows hesall).later hl2.keeps
   have hcellsNew: ∀q,q < (us++vs).length->(c1.toList.take N++vs++c1.toList.drop (N+vs.length)).toArray[base+l*pl.sz+q]? =(us++vs)[q]? :=by
    intro q hq
    simp only [List.getElem?_toArray]
    have hul2:us.length=es.length*P.cellsOf e:=hus.1
    have htl:(c1.toList.take N).length=N:=by simp;omega
    by_cases hqu:q < us.length
    ·have hqN:base+l*pl.sz+q < N:=by rw [<-hN];omega
     rw [List.append_assoc,List.getElem?_append_left (by rw [htl];exact hqN),List.getElem?_take_of_lt hqN,List.getElem?_append_left hqu]
     have he0:0 < es.length:=by
      rcases Nat.eq_zero_or_pos es.length with h0 | h0
      ·rw [h0,Nat.zero_mul] at hul2;omega
      ·exact h0
     obtain ⟨ad,hAd,hcc⟩:=huc he0
     rw [hA] at hAd;cases hAd
     have:=hcc q us[q] (List.getElem?_eq_getElem hqu)
     rw [cg,eu hw] at this
     rw [List.getElem?_eq_getElem hqu]
     simpa using this
    ·have hlv:q - us.length < vs.length:=by simp at hq;omega
     rw [List.append_assoc,List.getElem?_append_right (by rw [htl];omega),htl,List.getElem?_append_left (by omega),List.getElem?_append_right (by omega)]
     congr 1
     omega
   have hob':=pL (mu':=fun q=>if q=h.length then some npl else mu q) (md:= .rw) hwr.now hallz hnewrows hcellsNew (by
    rw [hlen',List.length_append,Nat.add_mul]
    have:=hrows.1
    omega)
   rw [show (⟨some (b,base+l*pl.sz),(es++ys).length,P.cellsOf e⟩:Pl)=npl by rw [<-hnpl];simp] at hob'
   obtain ⟨g1,g2⟩:=i.swap hfresh hm hlive (npl:=npl) hl2 (hwr.below i.below (i.own q pl b base hm hb).1) (by rw [hwr.size];exact Nat.le_refl _) (fun b' hb' hne=>hwr.other b' fun e'=>by subst e';exact hne base hb) rfl hob' (fun b2 base2 hb2=>by
    subst hnpl;cases hb2;exact .inr ⟨base,hb,hnok⟩)
   refine ⟨ok,_,hl2,g1,?_,g2⟩
   rw [hzl]
   refine .buf _ _ A cap npl (by simp) (by rw [<-hnpl]) ⟨hfit,.inr ⟨b,base+l*pl.sz,by rw [<-hnpl],by rw [hA];simp⟩⟩ fun b2 base2 hb2=> ?_
   subst hnpl
   cases hb2
   refine ⟨_,_,_,hwr.now,?_⟩
   rw [hlen']
   have h2:(l+cap)*pl.sz=l*pl.sz+cap*pl.sz:=Nat.add_mul _ _ _
   show base+l*pl.sz+cap*P.cellsOf e<=c1.size
   rw [<-hps] at*
   omega
 ·
  obtain ⟨newCap,rest,hcap2,hrest,hrun⟩:=ma (w:=w) (ty:=o.type) (A:=A) (A':=A') (n:=es.length) (cap:=cap) (m:=ys.length) (cap':=cap') (us:=us) (vs:=vs) hat2 hu hu1 hel hus.1 huc hrows.1 hcells (by omega) hby
  refine fI.value (by rw [hex,<-hesl];exact eU hrun) ?_
  generalize hnpl:(⟨some (w.heap.size,0),es.length+ys.length,P.cellsOf e⟩:Pl)=npl
  have hl2:=hlaterA (.cells (us++vs++rest).toArray e) npl
  have hheap:(w.drew.alloc (.cells (us++vs++rest).toArray e)).heap[w.heap.size]? =some (.cells (us++vs++rest).toArray e (0,0)):=ea w.drew _
  have hnewrows:=(hus.append hrows hesall).later hl2.keeps
  have hob':=pL (mu':=fun q=>if q=h.length then some npl else mu q) (md:= .rw) (base:=0) hheap hallz hnewrows (fun q hq=>by
   simp only [Nat.zero_add,List.getElem?_toArray]
   rw [List.getElem?_append_left hq]) (by
   simp only [List.size_toArray,List.length_append,hus.1,hrows.1,Nat.zero_add,Nat.add_mul]
   omega)
  rw [show (⟨some (w.heap.size,0),(es++ys).length,P.cellsOf e⟩:Pl)=npl by rw [<-hnpl];simp] at hob'
  obtain ⟨g1,g2⟩:=i.swap hfresh hm hlive (npl:=npl) hl2 (i.below.trans (((Below.refl _ _).drew).alloc i.below.size _)) (by show w.heap.size<=(w.heap.push _).size;simp) (fun b' hb' _=>Below.heap_alloc w.drew _ b' hb') rfl hob' (fun b2 base2 hb2=>by
   subst hnpl;cases hb2
   exact .inl ⟨Nat.le_refl _,by show w.heap.size < (w.heap.push _).size;simp,fun hb=>by have:=i.okw _ hb;omega⟩)
  refine ⟨ok,_,hl2,g1,?_,g2⟩
  rw [hzl]
  refine .buf _ _ (some ⟨w.heap.size,0,none⟩) newCap npl (by simp) (by rw [<-hnpl]) ⟨hcap2,.inr ⟨w.heap.size,0,by rw [<-hnpl],by simp⟩⟩ fun b2 base2 hb2=> ?_
  subst hnpl
  cases hb2
  refine ⟨_,_,_,hheap,?_⟩
  simp only [List.size_toArray,List.length_append,hus.1,hrows.1,hrest,Nat.zero_add]
  rw [<-Nat.add_mul,<-Nat.add_mul]
  exact Nat.mul_le_mul_right _ (by omega)
end
end Go.AM
namespace Go.AM
open Go.RowKit
theorem Lm: ∀(ps:List PV) (cs:List PV) (j i:Nat),j+ps.length<=cs.length->(setAt cs j ps)[i]? =if j<=i/\i < j+ps.length then ps[i - j]? else cs[i]?
 | [],cs,j,i,_=>by simp [setAt];omega
 | p::ps,cs,j,i,h=>by
   simp only [setAt,List.length_cons] at*
   rw [Lm ps (cs.set j p) (j+1) i (by simp;omega)]
   by_cases h1:i=j
   ·subst h1
    rw [if_neg (by omega),if_pos (by omega),Nat.sub_self]
    rw [List.getElem?_set_self (by omega)]
    rfl
   ·by_cases h2:j+1<=i/\i < j+1+ps.length
    ·rw [if_pos h2,if_pos (by omega),show i - j=(i - (j+1))+1 by omega,List.getElem?_cons_succ]
    ·rw [if_neg h2,if_neg (by omega),List.getElem?_set_ne (by omega)]
theorem BZ: ∀(ps:List PV) (cs:List PV) (j:Nat),(setAt cs j ps).length=cs.length
 | [],cs,j=>rfl
 | p::ps,cs,j=>by simp [setAt,BZ ps]
theorem Bg: ∀(ps:List IV) (cs:List IV) (j i:Nat),j+ps.length<=cs.length->(setCells cs j ps)[i]? =if j<=i/\i < j+ps.length then ps[i - j]? else cs[i]?
 | [],cs,j,i,_=>by simp [setCells];omega
 | p::ps,cs,j,i,h=>by
   simp only [setCells,List.length_cons] at*
   rw [Bg ps (cs.set j p) (j+1) i (by simp;omega)]
   by_cases h1:i=j
   ·subst h1
    rw [if_neg (by omega),if_pos (by omega),Nat.sub_self]
    rw [List.getElem?_set_self (by omega)]
    rfl
   ·by_cases h2:j+1<=i/\i < j+1+ps.length
    ·rw [if_pos h2,if_pos (by omega),show i - j=(i - (j+1))+1 by omega,List.getElem?_cons_succ]
    ·rw [if_neg h2,if_neg (by omega),List.getElem?_set_ne (by omega)]
theorem uL: ∀(ps:List IV) (cs:List IV) (j:Nat),(setCells cs j ps).length=cs.length
 | [],cs,j=>rfl
 | p::ps,cs,j=>by simp [setCells,uL ps]
section
variable {P:Program} {w0:World} {ok0:O0} {o:Oper} {a:Act} {w:World} {ok:Nat->Prop} {mu:Mu} {h:List Ob} {fr:List PV}
theorem ni {α:Type} {l:List α} {x:α} (h:x∈l): ∃i:Nat,l[i]? =some x:=by
 obtain ⟨i,hi,e⟩:=List.mem_iff_getElem.1 h
 exact ⟨i,by rw [List.getElem?_eq_getElem hi,e]⟩
theorem L8 {t:TypeId} {b off:Nat} {v:Value} (hpos:0 < P.cellsOf t) (hs:v.cells.size=P.cellsOf t) (h1: ∀u∈v.cells.toList,u.oneCell'=true) {c:Array Value} {T:TypeId} (hw:w.heap[b]? =some (.cells c T (0,0))) (hroom:off+v.cells.size<=c.size):
  (Instr.storeAt t (.pointer (some ⟨b,off,none⟩)) v).run P w= .ok () (w.setRow b (c.toList.take off++v.cells.toList++c.toList.drop (off+v.cells.size)).toArray):=by
 have hst:=run_storeCells_at (P:=P) b off T v.cells.toList 0 c w hw (by simpa using hroom) h1
 obtain ⟨i,hi⟩:=Option.isSome_iff_exists.1 (gG hpos)
 simp only [Nat.add_zero,Array.length_toList] at hst
 simp [Instr.storeAt,Instr.sureAddr,storeVar,run_sizeOf w hi,hs,hst]
theorem OB {c:Array Value} {vs:List Value} {off i:Nat} (hroom:off+vs.length<=c.size):(c.toList.take off++vs++c.toList.drop (off+vs.length)).toArray[i]? =if off<=i/\i < off+vs.length then vs[i - off]? else c[i]? :=by
 have htl:(c.toList.take off).length=off:=by simp;omega
 simp only [List.getElem?_toArray]
 by_cases h1:i < off
 ·rw [if_neg (by omega),List.append_assoc,List.getElem?_append_left (by rw [htl];exact h1),List.getElem?_take_of_lt h1];simp
 ·by_cases h2:i < off+vs.length
  ·rw [if_pos (by omega),List.append_assoc,List.getElem?_append_right (by rw [htl];omega),htl,List.getElem?_append_left (by omega)]
  ·rw [if_neg (by omega),List.getElem?_append_right (by simp [htl];omega),List.getElem?_drop]
   simp only [List.length_append,htl]
   rw [show off+vs.length+(i - (off+vs.length))=i by omega]
   simp
theorem sM {c:Array Value} {vs:List Value} {off:Nat} (hroom:off+vs.length<=c.size):(c.toList.take off++vs++c.toList.drop (off+vs.length)).toArray.size=c.size:=by
 simp;omega
theorem Pq (m:Md) {t:TypeId} {x y:Operand} (hop:o.op= .store t x y) (i:Inv w0 ok0 w ok mu h) (hfresh: ∀q,h.length<=q->mu q=none) (rx:RP w ok mu (ev fr x) (a.eval x)) (ry:RP w ok mu (ev fr y) (a.eval y)) {q j:Nat} (hx:ev fr x= .ptr q j) {cs:List PV} (hg:getOb h q= .box .rw cs)
  (hwh:(ev fr y).whole=true) (hlen:(ev fr y).cells.length=P.cellsOf t) (hat:(ev fr y).cells.all PV.atom=true) (hpos:0 < P.cellsOf t) (hroom:j+(ev fr y).cells.length<=cs.length):
  pX P w0 ok0 o a w ok mu .skip (h.set q (.box m (setAt cs j (ev fr y).cells))):=by
 obtain ⟨hvs,hvr⟩:=ry.cellsRel hwh
 rw [hx] at rx
 have he:execOp a.eval o=(do Instr.storeAt t (a.eval x) (a.eval y);pure Next.skip):=by simp [execOp,hop]
 generalize a.eval x=vx at*
 generalize a.eval y=vy at*
 cases rx with
 | ptr q j pl b base hm hl=>
   have hob:=i.ob q pl hm
   rw [hg] at hob
   obtain ⟨b',base',c,T,hl',hw,hs,hr⟩:=hob
   rw [hl] at hl';cases hl'
   have hlive:(getOb h q).live=true:=by rw [hg];rfl
   have hnf:(getOb h q).fz=false:=by rw [hg];rfl
   have hnok:=(i.own q pl b base hm hl).2.2 hlive hnf
   have h1: ∀u∈vy.cells.toList,u.oneCell'=true:=fun u hu=>by
    obtain ⟨k,hk⟩:=ni hu
    have hk':k < (ev fr y).cells.length:=by rw [<-hvs];have:=(List.getElem?_eq_some_iff.1 hk).1;simpa using this
    obtain ⟨u',h2,h3⟩:=hvr k _ (List.getElem?_eq_getElem hk')
    have:u=u':=by
     have:vy.cells[k]? =some u:=by simpa using hk
     rw [h2] at this;exact (Option.some.inj this).symm
    rw [this]
    exact h3.atomic (List.all_eq_true.1 hat _ (List.getElem_mem hk'))
   have hroom2:base+j+vy.cells.toList.length<=c.size:=by simp;omega
   have hrun:=L8 (P:=P) (t:=t) hpos (by omega) h1 hw (off:=base+j) (by simpa using hroom2)
   rw [<-Array.length_toList] at hrun
   have hwr:=cq (c':=(c.toList.take (base+j)++vy.cells.toList++c.toList.drop (base+j+vy.cells.toList.length)).toArray) hw (sM hroom2)
   have hlater:=hwr.later (mu:=mu) (mu':=mu) hnok (fun _ _ h=>h)
   obtain ⟨g1,g2,g3⟩:=i.write hfresh hm hl hlive hnf hwr (ob:= .box m (setAt cs j (ev fr y).cells)) ⟨b,base,_,T,hl,hwr.now,by rw [BZ,sM hroom2];exact hs,fun k p hk=>by
    rw [Lm _ _ _ _ hroom] at hk
    rw [OB hroom2]
    split at hk
    ·rename_i hc
     obtain ⟨u,h2,h3⟩:=hvr _ p hk
     refine ⟨u,?_,h3.later hlater⟩
     rw [if_pos (by simp;omega),show base+k - (base+j)=k - j by omega]
     simpa using h2
    ·rename_i hc
     obtain ⟨u,h2,h3⟩:=hr k p hk
     refine ⟨u,?_,h3.later hlater⟩
     rw [if_neg (by simp;omega)]
     exact h2⟩ rfl
   exact fI.skip (by rw [he];exact FY hrun) ⟨ok,mu,g2,g1,.skip,g3⟩
theorem UH {x z:IV} {i j:Nat} {vs:List IV} (h:zy x i j vs=some z): ∃es e,x= .lst es/\es[i]? =some e/\j+vs.length<=e.length/\z= .lst (es.set i (setCells e j vs)):=by
 unfold zy at h
 split at h
 ·rename_i es
  cases he:es[i]? with
  | none=>simp [he] at h
  | some e=>
    simp only [he,Option.bind_some] at h
    split at h
    ·exact ⟨es,e,rfl,he,‹_›,by simpa using h.symm⟩
    ·cases h
 ·cases h
theorem Pg {t:TypeId} {x y:Operand} (hop:o.op= .store t x y) (i:Inv w0 ok0 w ok mu h) (hfresh: ∀q,h.length<=q->mu q=none) (rx:RP w ok mu (ev fr x) (a.eval x)) (ry:RP w ok mu (ev fr y) (a.eval y)) {q k j:Nat} (hx:ev fr x= .bptr q k j) {sz:Nat} {x0:IV} (hg:getOb h q= .arr .rw sz x0)
  (hwh:(ev fr y).whole=true) (hlen:(ev fr y).cells.length=P.cellsOf t) (hpos:0 < P.cellsOf t) {vs:List IV} (hvs:Ko (ev fr y).cells=some vs) {z:IV} (hz:zy x0 k j vs=some z):
  pX P w0 ok0 o a w ok mu .skip (h.set q (.arr .rw sz z)):=by
 obtain ⟨hvsz,hvr⟩:=ry.cellsRel hwh
 obtain ⟨hvl,hvg⟩:=Ig hvs
 obtain ⟨es,e,rfl,hek,hjr,rfl⟩:=UH hz
 rw [hx] at rx
 have he:execOp a.eval o=(do Instr.storeAt t (a.eval x) (a.eval y);pure Next.skip):=by simp [execOp,hop]
 generalize a.eval x=vx at*
 generalize a.eval y=vy at*
 cases rx with
 | bptr q k j pl b base hm hl=>
   have hob:=i.ob q pl hm
   rw [hg] at hob
   obtain ⟨hps,es',hes,hlen',hall,hnone,hc⟩:=hob.arrN (fun _ h=>by cases h)
   cases hes
   obtain ⟨c,T,hw,hs,hr⟩:=hc b base hl
   have hlive:(getOb h q).live=true:=by rw [hg];rfl
   have hnf:(getOb h q).fz=false:=by rw [hg];rfl
   have hnok:=(i.own q pl b base hm hl).2.2 hlive hnf
   have hkl:k < es.length:=(List.getElem?_eq_some_iff.1 hek).1
   have hel:e.length=sz:=hall e (List.mem_of_getElem? hek)
   have hcell: ∀n u,vy.cells[n]? =some u->n < vs.length/\ ∃x,vs[n]? =some x/\RV w ok x u:=fun n u hn=>by
    have hn':n < (ev fr y).cells.length:=by rw [<-hvsz];exact (Array.getElem?_eq_some_iff.1 hn).1
    obtain ⟨x,h2,h3⟩:=hvg n _ (List.getElem?_eq_getElem hn')
    obtain ⟨u',h4,h5⟩:=hvr n _ (List.getElem?_eq_getElem hn')
    rw [hn] at h4;cases h4
    rw [h3] at h5
    cases h5 with
    | imm h5=>exact ⟨by omega,x,h2,h5⟩
   have h1: ∀u∈vy.cells.toList,u.oneCell'=true:=fun u hu=>by
    obtain ⟨n,hn⟩:=ni hu
    obtain ⟨_,x,_,h3⟩:=hcell n u (by simpa using hn)
    exact h3.atomic
   have hk1:k*sz+sz<=es.length*sz:=by rw [<-Nat.succ_mul];exact Nat.mul_le_mul_right _ hkl
   have hvyl:vy.cells.toList.length=vs.length:=by simp;omega
   have hroom2:base+k*pl.sz+j+vy.cells.toList.length<=c.size:=by rw [hps];omega
   have hrun:=L8 (P:=P) (t:=t) hpos (by omega) h1 hw (off:=base+k*pl.sz+j) (by simpa using hroom2)
   rw [<-Array.length_toList] at hrun
   have hwr:=cq (c':=(c.toList.take (base+k*pl.sz+j)++vy.cells.toList++c.toList.drop (base+k*pl.sz+j+vy.cells.toList.length)).toArray) hw (sM hroom2)
   have hlater:=hwr.later (mu:=mu) (mu':=mu) hnok (fun _ _ h=>h)
   have hob':ObOk (w.setRow b (c.toList.take (base+k*pl.sz+j)++vy.cells.toList++c.toList.drop (base+k*pl.sz+j+vy.cells.toList.length)).toArray) ok mu pl (.arr .rw sz (.lst (es.set k (setCells e j vs)))):=by
    refine .inl ⟨hob.pos (fun _ h=>by cases h),hps,_,rfl,by simpa using hlen',fun e' he'=> ?_,fun hn=>(by rw [hl] at hn;cases hn),fun b' base' hl'=> ?_⟩
    ·rcases List.mem_or_eq_of_mem_set he' with h2 | h2
     ·exact hall e' h2
     ·rw [h2,uL,hel]
    ·rw [hl] at hl';cases hl'
     refine ⟨_,T,hwr.now,by rw [sM hroom2];simpa using hs,fun m n e' x hm' hn'=> ?_⟩
     rw [OB hroom2]
     by_cases hmk:m=k
     ·subst hmk
      rw [List.getElem?_set_self hkl] at hm'
      cases hm'
      rw [Bg _ _ _ _ hjr] at hn'
      split at hn'
      ·rename_i hcond
       have hnl:n - j < vy.cells.size:=by rw [<-Array.length_toList,hvyl];omega
       obtain ⟨_,x',h3,h4⟩:=hcell (n - j) vy.cells[n - j] (Array.getElem?_eq_getElem hnl)
       rw [hn'] at h3;cases h3
       refine ⟨_,?_,h4.keeps hlater.keeps⟩
       rw [if_pos (by rw [hps];omega),hps,show base+m*sz+n - (base+m*sz+j)=n - j by omega]
       simp [hnl]
      ·rename_i hcond
       obtain ⟨u,h3,h4⟩:=hr m n e x hek hn'
       refine ⟨u,?_,h4.keeps hlater.keeps⟩
       rw [if_neg (by rw [hps];omega)]
       exact h3
     ·rw [List.getElem?_set_ne (fun e=>hmk e.symm)] at hm'
      have hnsz:n < sz:=by rw [<-hall e' (List.mem_of_getElem? hm')];exact (List.getElem?_eq_some_iff.1 hn').1
      obtain ⟨u,h3,h4⟩:=hr m n e' x hm' hn'
      refine ⟨u,?_,h4.keeps hlater.keeps⟩
      have hdisj: ¬(base+k*pl.sz+j<=base+m*sz+n/\base+m*sz+n < base+k*pl.sz+j+vy.cells.toList.length):=by
       rw [hps,hvyl]
       rcases Nat.lt_or_gt_of_ne hmk with h5 | h5
       ·have:m*sz+sz<=k*sz:=by rw [<-Nat.succ_mul];exact Nat.mul_le_mul_right _ h5
        omega
       ·have:k*sz+sz<=m*sz:=by rw [<-Nat.succ_mul];exact Nat.mul_le_mul_right _ h5
        omega
      rw [if_neg hdisj]
      exact h3
   obtain ⟨g1,g2,g3⟩:=i.write hfresh hm hl hlive hnf hwr hob' rfl
   exact fI.skip (by rw [he];exact FY hrun) ⟨ok,mu,g2,g1,.skip,g3⟩
theorem Sg {sz:Nat} {x y:IV} {l u:Nat} {z:IV×IV} (h:P4 sz x l u y=some z): ∃es ys,x= .lst es/\y= .lst ys/\l<=u/\u<=es.length/\(∀e∈ys,e.length=sz)/\z=(.lst (es.take l++ys.take (min (u - l) ys.length)++es.drop (l+min (u - l) ys.length)),.int .i64 ((min (u - l) ys.length:Nat):Int)):=by
 unfold P4 at h
 split at h
 ·split at h
  ·rename_i hc
   cases h
   exact ⟨_,_,rfl,rfl,hc.1,hc.2.1,fun e he=>by simpa using List.all_eq_true.1 hc.2.2 e he,rfl⟩
  ·cases h
 ·cases h
theorem UO {t t' ty e:TypeId} (hu:P.underlying t=some (.slice e)) (hpos:0 < P.cellsOf e) {A A':Option Addr} {dLen dCap sLen sCap:Nat} (h0:Nat.min sLen dLen=0):
  (Builtin.copy_ #[t,t'] ty #[.slice A dLen dCap,.slice A' sLen sCap]).run P w= .ok (.int .i64 0) w:=by
 obtain ⟨i,hi⟩:=Option.isSome_iff_exists.1 (gG hpos)
 have hF:(Builtin.firstCells (P.cellsOf e) 0 (.slice A' sLen sCap)).run P w= .ok #[] w:=by
  have h:=cR (P:=P) (w:=w) (A:=A') (n:=0) (sz:=P.cellsOf e) (cap:=sCap) (us:=[]) (by simp) (fun h=>by omega)
  cases A'<;>exact h
 simp only [Builtin.copy_,run_underlying hu,Builtin.lenOf,run_sizeOf w hi,Sem.run_bind,Result.andThen_ok,Sem.run_pure,h0,hF,List.getElem?_toArray,List.getElem?_cons_zero,List.getElem?_cons_succ]
 cases A<;>rfl
theorem UI {t t' ty e:TypeId} (hu:P.underlying t=some (.slice e)) (hpos:0 < P.cellsOf e) {b o dLen dCap sLen sCap:Nat} {A:Option Addr} {us:List Value} {n:Nat} (hn:n=Nat.min sLen dLen) (hul:us.length=n*P.cellsOf e)
  (huc:0 < n-> ∃ad,A=some ad/\ ∀q u,us[q]? =some u->w.cell? (ad.add q)=some u) (h1: ∀v∈us,v.oneCell'=true) {c:Array Value} {T:TypeId} (hw:w.heap[b]? =some (.cells c T (0,0))) (hroom:o+us.length<=c.size):
  (Builtin.copy_ #[t,t'] ty #[.slice (some ⟨b,o,none⟩) dLen dCap,.slice A sLen sCap]).run P w= .ok (.int .i64 (n:Int)) (w.setRow b (c.toList.take o++us++c.toList.drop (o+us.length)).toArray):=by
 obtain ⟨i,hi⟩:=Option.isSome_iff_exists.1 (gG hpos)
 have hF:(Builtin.firstCells (P.cellsOf e) n (.slice A sLen sCap)).run P w= .ok us.toArray w:=by
  have h:=cR (P:=P) (w:=w) (cap:=sCap) hul huc
  cases A<;>exact h
 have hst:=run_storeCells_at (P:=P) b o T us 0 c w hw (by omega) h1
 simp only [Builtin.copy_,run_underlying hu,Builtin.lenOf,run_sizeOf w hi,Sem.run_bind,Result.andThen_ok,Sem.run_pure,<-hn,hF,List.getElem?_toArray,List.getElem?_cons_zero,List.getElem?_cons_succ]
 have hst':(storeCells ⟨b,o,none⟩ us).run P w= .ok () (w.setRow b (c.toList.take o++us++c.toList.drop (o+us.length)).toArray):=by simpa using hst
 rw [hst']
 rfl
theorem Wm {c:Call} (hop:o.op= .call c) (hc:c.callee= .builtin .copy) {x y:Operand} (hargs:c.args= #[x,y]) (hat:c.argTypes.size=2) (h0:bo P (c.argTypes.getD 0 0)=true) (h1:bo P (c.argTypes.getD 1 0)=true) (hpos:0 < P.cellsOf (aU P (c.argTypes.getD 0 0)))
  (i:Inv w0 ok0 w ok mu h) (hfresh: ∀q,h.length<=q->mu q=none) (rx:RP w ok mu (ev fr x) (a.eval x)) (ry:RP w ok mu (ev fr y) (a.eval y)) {q l u sz:Nat} {x0:IV} (hg:getOb h q= .arr .rw sz x0) (hsz:sz=P.cellsOf (aU P (c.argTypes.getD 0 0)))
  (hx:ev fr x= .sub q l u\/(∃n,ev fr x= .buf q n/\l=0/\u=n)) {s:IV} {z:IV×IV} (hs:lR h (ev fr y)=some s) (hz:P4 sz x0 l u s=some z):
  pX P w0 ok0 o a w ok mu (.imm z.2) (h.set q (.arr .rw sz z.1)):=by
 obtain ⟨e,hu,he⟩:=dR h0
 rw [he] at hpos hsz
 obtain ⟨es,ys,rfl,rfl,hlu,hues,hall,rfl⟩:=Sg hz
 subst hsz
 obtain ⟨A',cap',vs,hy,hrows,hcells⟩:=nG i.q ry hs hpos hall
 have hex:execOp a.eval o=(do pure (Next.value (<-Builtin.copy_ c.argTypes o.type #[a.eval x,a.eval y]))):=by
  simp only [execOp,hop,resolve,hc,hargs,invoke,builtin]
  simp
 have hat2:=CY hat
 have hhdr: ∃A cap pl,a.eval x= .slice A (u - l) cap/\mu q=some pl/\u<=pl.len/\Hdr pl l (u - l) cap A:=by
  rcases hx with hx | ⟨n,hx,rfl,rfl⟩
  ·rw [hx] at rx
   generalize a.eval x=v at rx
   cases rx with
   | sub q l u A cap pl hm hl hn hh hc=>exact ⟨A,cap,pl,rfl,hm,hn,hh⟩
  ·rw [hx] at rx
   generalize a.eval x=v at rx
   cases rx with
   | buf q n A cap pl hm hn hh hc=>exact ⟨A,cap,pl,by simp,hm,by omega,by simpa using hh⟩
 obtain ⟨A,cap,pl,hxv,hm,hul,hh⟩:=hhdr
 rw [hxv,hy,hat2] at hex
 have hob:=i.ob q pl hm
 rw [hg] at hob
 obtain ⟨hps,es0,hes0,hlen0,hall0,hnone0,hc0⟩:=hob.arrN (fun _ h=>by cases h)
 cases hes0
 have hlive:(getOb h q).live=true:=by rw [hg];rfl
 have hnf:(getOb h q).fz=false:=by rw [hg];rfl
 have hmin:Nat.min ys.length (u - l)=min (u - l) ys.length:=Nat.min_comm _ _
 by_cases hk:min (u - l) ys.length=0
 ·have hzs:es.take l++ys.take (min (u - l) ys.length)++es.drop (l+min (u - l) ys.length)=es:=by rw [hk];simp
  have hset:h.set q (.arr .rw (P.cellsOf e) (.lst (es.take l++ys.take (min (u - l) ys.length)++es.drop (l+min (u - l) ys.length))))=h:=by
   rw [hzs]
   apply List.ext_getElem?
   intro j
   rw [List.getElem?_set]
   by_cases e':q=j
   ·subst e'
    have hlt:=iT hlive
    simp only [if_true,hlt]
    have:getOb h q=h[q]:=by simp [getOb,hlt]
    rw [List.getElem?_eq_getElem hlt,<-this,hg]
   ·simp [e']
  simp only
  rw [hset,hk]
  refine fI.value (w':=w) (by rw [hex];exact eU (UO hu hpos (by rw [hmin,hk]))) ⟨ok,mu,.refl _ _ _,i,.imm (.int _ _),hfresh⟩
 ·rcases hh.2 with ⟨hn0,_⟩ | ⟨b,base,hb,rfl⟩
  ·omega
  ·obtain ⟨c1,T,hw,hroom,hr⟩:=hc0 b base hb
   have hnok:=(i.own q pl b base hm hb).2.2 hlive hnf
   generalize hK:min (u - l) ys.length=K at*
   have hKy:K<=ys.length:=by omega
   have hKu:l+K<=es.length:=by omega
   have husl:(vs.take (K*P.cellsOf e)).length=K*P.cellsOf e:=by
    rw [List.length_take,hrows.1]
    exact Nat.min_eq_left (Nat.mul_le_mul_right _ hKy)
   have h2:l*P.cellsOf e+K*P.cellsOf e<=es.length*P.cellsOf e:=by rw [<-Nat.add_mul];exact Nat.mul_le_mul_right _ hKu
   have hroom2:base+l*pl.sz+(vs.take (K*P.cellsOf e)).length<=c1.size:=by rw [husl,hps];omega
   have hrun:=UI (P:=P) (w:=w) (t:=c.argTypes.getD 0 0) (t':=c.argTypes.getD 1 0) (ty:=o.type) hu hpos (dLen:=u - l) (dCap:=cap) (sLen:=ys.length) (sCap:=cap') (A:=A') (us:=vs.take (K*P.cellsOf e)) (n:=K) (by rw [hmin]) husl (fun h=>by
    obtain ⟨ad,g1,g2⟩:=hcells (by omega)
    refine ⟨ad,g1,fun j v hj=>g2 j v ?_⟩
    have hjl:j < K*P.cellsOf e:=by have:=(List.getElem?_eq_some_iff.1 hj).1;omega
    rwa [List.getElem?_take_of_lt hjl] at hj) (fun v hv=>hrows.2.1 v (List.mem_of_mem_take hv)) hw hroom2
   have hwr:=cq (c':=(c1.toList.take (base+l*pl.sz)++vs.take (K*P.cellsOf e)++c1.toList.drop (base+l*pl.sz+(vs.take (K*P.cellsOf e)).length)).toArray) hw (sM hroom2)
   have hlater:=hwr.later (mu:=mu) (mu':=mu) hnok (fun _ _ h=>h)
   have hob':ObOk (w.setRow b (c1.toList.take (base+l*pl.sz)++vs.take (K*P.cellsOf e)++c1.toList.drop (base+l*pl.sz+(vs.take (K*P.cellsOf e)).length)).toArray) ok mu pl (.arr .rw (P.cellsOf e) (.lst (es.take l++ys.take K++es.drop (l+K)))):=by
    refine .inl ⟨hpos,hps,_,rfl,by simp;omega,fun e' he'=> ?_,fun hn=>(by rw [hb] at hn;cases hn),fun b' base' hl'=> ?_⟩
    ·rcases List.mem_append.1 he' with g | g
     ·rcases List.mem_append.1 g with g | g
      ·exact hall0 e' (List.mem_of_mem_take g)
      ·exact hall e' (List.mem_of_mem_take g)
     ·exact hall0 e' (List.mem_of_mem_drop g)
    ·rw [hb] at hl';cases hl'
     refine ⟨_,T,hwr.now,by rw [sM hroom2];simp;rw [show min l es.length+(min K ys.length+(es.length - (l+K)))=es.length by omega];exact hroom,fun m n e' x hm' hn'=> ?_⟩
     rw [OB hroom2]
     have hnsz:n < e'.length:=(List.getElem?_eq_some_iff.1 hn').1
     by_cases hm1:m < l
     ·rw [List.append_assoc,List.getElem?_append_left (by simp;omega),List.getElem?_take_of_lt hm1] at hm'
      have hel:=hall0 e' (List.mem_of_getElem? hm')
      obtain ⟨v,h3,h4⟩:=hr m n e' x hm' hn'
      have h5:m*P.cellsOf e+P.cellsOf e<=l*P.cellsOf e:=by rw [<-Nat.succ_mul];exact Nat.mul_le_mul_right _ hm1
      exact ⟨v,by rw [if_neg (by rw [hps];omega)];exact h3,h4.keeps hlater.keeps⟩
     ·by_cases hm2:m < l+K
      ·rw [List.append_assoc,List.getElem?_append_right (by simp;omega),List.getElem?_append_left (by simp;omega),List.getElem?_take_of_lt (by simp;omega)] at hm'
       have hlm:m - (es.take l).length=m - l:=by simp;omega
       rw [hlm] at hm'
       have hel:=hall e' (List.mem_of_getElem? hm')
       obtain ⟨v,h3,h4⟩:=hrows.2.2 (m - l) n e' x hm' hn'
       have h5:(m - l)*P.cellsOf e+P.cellsOf e<=K*P.cellsOf e:=by rw [<-Nat.succ_mul];exact Nat.mul_le_mul_right _ (by omega)
       have h6:m*P.cellsOf e=l*P.cellsOf e+(m - l)*P.cellsOf e:=by rw [<-Nat.add_mul];congr 1;omega
       refine ⟨v,?_,h4.keeps hlater.keeps⟩
       rw [if_pos (by rw [hps,husl];omega),hps,show base+m*P.cellsOf e+n - (base+l*P.cellsOf e)=(m - l)*P.cellsOf e+n by omega,List.getElem?_take_of_lt (by omega)]
       exact h3
      ·rw [List.getElem?_append_right (by simp;omega),List.getElem?_drop] at hm'
       have hlm:l+K+(m - (es.take l++ys.take K).length)=m:=by simp;omega
       rw [hlm] at hm'
       have hel:=hall0 e' (List.mem_of_getElem? hm')
       obtain ⟨v,h3,h4⟩:=hr m n e' x hm' hn'
       have h5:l*P.cellsOf e+K*P.cellsOf e<=m*P.cellsOf e:=by rw [<-Nat.add_mul];exact Nat.mul_le_mul_right _ (by omega)
       exact ⟨v,by rw [if_neg (by rw [hps,husl];omega)];exact h3,h4.keeps hlater.keeps⟩
   obtain ⟨g1,g2,g3⟩:=i.write hfresh hm hb hlive hnf hwr hob' rfl
   exact fI.value (by rw [hex];exact eU hrun) ⟨ok,mu,g2,g1,.imm (.int _ _),g3⟩
end
end Go.AM
namespace Go.AM
open Go.RowKit
def ArgRel (w:World) (ok:Nat->Prop) (cs:List IV) (v:Value):Prop:=
 (∃x,cs=[x]/\RV w ok x v)\/(2<=cs.length/\ ∃vs:Array Value,v= .agg vs/\vs.size=cs.length/\ ∀(i:Nat) (x:IV) (u:Value),cs[i]? =some x->vs[i]? =some u->RV w ok x u)
def bh (w:World) (ok:Nat->Prop) (as:List (List IV)) (args:List Value):Prop:=
 as.length=args.length/\ ∀(i:Nat) (c:List IV) (v:Value),as[i]? =some c->args[i]? =some v->ArgRel w ok c v
def mT (w:World) (ok:Nat->Prop) (n:Nat) (r:List IV) (i:Nat) (v:Value):Prop:=
 (n=1/\RV w ok (nth r i) v)\/(2<=n/\ ∃vs:Array Value,v= .agg vs/\vs.size=n/\ ∀(j:Nat) (u:Value),vs[j]? =some u->RV w ok (nth r (i+j)) u)
def gZ (w:World) (ok:Nat->Prop) (r:List IV):List Nat->Nat->List Value->Prop
 | [],_,[]=>True
 | n::ns,i,v::vs=>mT w ok n r i v/\gZ w ok r ns (i+n) vs
 | _,_,_=>False
def dI (w:World) (ok:Nat->Prop) (ns:List Nat) (r:List IV) (v:Value):Prop:=
 match ns with
 | [n]=>mT w ok n r 0 v
 | ns=> ∃vs:Array Value,v= .tuple vs/\gZ w ok r ns 0 vs.toList
def Enters (P:Program) (g:FuncId):Prop:= ∀(args:Array Value) (w:World),(callFunc g args).run P w= .ok (.enter g args) w
def sj (w:World) (ok:Nat->Prop) (w':World):Nat->Prop:=fun b=>ok b\/(w.heap.size<=b/\b < w'.heap.size)
def PureAt (P:Program) (g:FuncId) (cap:List Value) (ns:List Nat) (fn:List (List IV)->Option (List IV)) (W:World) (OK:Nat->Prop):Prop:=
 ∀(w:World) (ok:Nat->Prop) (as:List (List IV)) (args:List Value) (r:List IV),Keeps W OK w ok->(∀b,ok b->b < w.heap.size)->bh w ok as args->fn as=some r->
  Calls P g (args++cap).toArray w fun e w'=> ∃v,e= .returned v/\Below w.heap.size w w'/\dI w' (sj w ok w') ns r v
structure OwnVal (w':World) (ok:Nat->Prop) (esz:Nat) (x:IV) (v:Value) (pl:Pl):Prop where
 ob:ObOk w' ok (fun _=>none) pl (.arr .rw esz x)
 hdr: ∃A cap,v= .slice A pl.len cap/\Hdr pl 0 pl.len cap A/\ ∀b base,pl.loc=some (b,base)-> ∃(c:Array Value) (T:TypeId) (z:Nat×Nat),w'.heap[b]? =some (.cells c T z)/\base+cap*pl.sz<=c.size
theorem OwnVal.arr {w':World} {ok:Nat->Prop} {esz:Nat} {x:IV} {v:Value} {pl:Pl} (r:OwnVal w' ok esz x v pl):uH w' ok pl esz x:=by
 obtain ⟨A,cap,_,_,hc⟩:=r.hdr
 exact r.ob.arrC hc
def CellVal (w:World) (ok:Nat->Prop) (pl pA:Pl) (x:IV) (u:Value):Sc->Prop
 | .imm=>RV w ok x u
 | .buf sz none=>0 < sz/\uH w ok pA sz x/\ ∃A cap,u= .slice A pA.len cap/\Hdr pA 0 pA.len cap A/\ ∀b base,pA.loc=some (b,base)-> ∃(c:Array Value) (T:TypeId) (z:Nat×Nat),w.heap[b]? =some (.cells c T z)/\base+cap*pA.sz<=c.size
 | .buf sz (some T)=>0 < sz/\uH w ok pA sz x/\TyH w pA T pA.len u
 | .sn T n=>SnH w pl T n u
def ObjBuf (shp:List Sc) (pA:Nat->Pl) (b:Nat):Prop:= ∃(j:Nat) (sz:Nat×Option TypeId) (base:Nat),shp[j]? =some (.buf sz.1 sz.2)/\(pA j).loc=some (b,base)
def ObjLoc (shp:List Sc) (pl:Pl) (pA:Nat->Pl) (b:Nat):Prop:=(∃base,pl.loc=some (b,base))\/ObjBuf shp pA b
structure ObjVal (w:World) (ok:Nat->Prop) (shp:List Sc) (vs:List IV) (v:Value) (pl:Pl) (pA:Nat->Pl):Prop where
 box: ∃(b base:Nat) (c:Array Value) (T:TypeId),pl.loc=some (b,base)/\v= .pointer (some ⟨b,base,none⟩)/\w.heap[b]? =some (.cells c T (0,0))/\base+shp.length<=c.size/\ ∀(j:Nat) (s:Sc),shp[j]? =some s-> ∃u,c[base+j]? =some u/\CellVal w ok pl (pA j) (nth vs j) u s
 apart: ∀b base,pl.loc=some (b,base)-> ¬ObjBuf shp pA b
 two: ∀(j k:Nat) (sz sz':Nat×Option TypeId) (b base base':Nat),shp[j]? =some (.buf sz.1 sz.2)->shp[k]? =some (.buf sz'.1 sz'.2)->(pA j).loc=some (b,base)->(pA k).loc=some (b,base')->j=k
 free: ∀b,ObjLoc shp pl pA b-> ¬ok b
def ah (P:Program) (g:FuncId) (s:FSig):Prop:=
 match s.mode with
 | .pure=>(∀w ok,PureAt P g [] s.res s.fn w ok)/\(s.scalar=true-> ∀as r,s.fn as=some r-> ∀x∈r,x.scalar=true)
 | .own=> ∀(w:World) (ok:Nat->Prop) (as:List (List IV)) (args:List Value) (r:List IV),(∀b,ok b->b < w.heap.size)->bh w ok as args->s.fn as=some r->
     Calls P g args.toArray w fun e w'=> ∃v pl,e= .returned v/\Below w.heap.size w w'/\OwnVal w' ok s.esz (nth r 0) v pl/\ ∀b base,pl.loc=some (b,base)->w.heap.size<=b/\b < w'.heap.size
 | .cons=> ∀(w:World) (ok:Nat->Prop) (as:List (List IV)) (x:IV) (v0:Value) (pl:Pl) (args:List Value) (r:List IV),(∀b,ok b->b < w.heap.size)->OwnVal w ok s.esz x v0 pl->(∀b base,pl.loc=some (b,base)-> ¬ok b)->bh w ok as args->s.fn ([x]::as)=some r->
     Calls P g (v0::args).toArray w fun e w'=> ∃v npl,e= .returned v/\w'.os=w.os/\w'.tape=w.tape/\w'.output=w.output/\w.heap.size<=w'.heap.size/\Sizes w w'/\
      (∀b,b < w.heap.size->(∀base,pl.loc≠some (b,base))->w'.heap[b]? =w.heap[b]?)/\OwnVal w' ok s.esz (nth r 0) v npl/\
      ∀b base,npl.loc=some (b,base)->(w.heap.size<=b/\b < w'.heap.size)\/ ∃base',pl.loc=some (b,base')
 | .inpl=> ∀(w:World) (ok:Nat->Prop) (as:List (List IV)) (x:IV) (v0:Value) (pl:Pl) (args:List Value) (r:List IV),(∀b,ok b->b < w.heap.size)->OwnVal w ok s.esz x v0 pl->(∀b base,pl.loc=some (b,base)-> ¬ok b)->bh w ok as args->s.fn ([x]::as)=some r->
     Calls P g (v0::args).toArray w fun e w'=> ∃v,e= .returned v/\w'.os=w.os/\w'.tape=w.tape/\w'.output=w.output/\w.heap.size<=w'.heap.size/\Sizes w w'/\
      (∀b,b < w.heap.size->(∀base,pl.loc≠some (b,base))->w'.heap[b]? =w.heap[b]?)/\ ∃ok',(∀b,ok b->ok' b)/\(∀b,ok' b->ok b\/(w.heap.size<=b/\b < w'.heap.size))/\ObOk w' ok' (fun _=>none) pl (.arr .rw s.esz (nth r 0))
 | .fresh=> ∀(w:World) (ok:Nat->Prop) (as:List (List IV)) (args:List Value) (r:List IV),(∀b,ok b->b < w.heap.size)->bh w ok as args->s.fn as=some r->
     Calls P g args.toArray w fun e w'=> ∃v pl,e= .returned v/\Below w.heap.size w w'/\OwnVal w' (fun _=>False) s.esz (nth r 0) v pl/\ ∀b base,pl.loc=some (b,base)->w.heap.size<=b/\b < w'.heap.size
 | .obj shp=>(∀(w:World) (ok:Nat->Prop) (as:List (List IV)) (vs:List IV) (v0:Value) (pl:Pl) (pA:Nat->Pl) (args:List Value) (r:List IV),(∀b,ok b->b < w.heap.size)->vs.length=shp.length->ObjVal w ok shp vs v0 pl pA->(∀b,ObjLoc shp pl pA b->b < w.heap.size)->bh w ok as args->s.fn (vs::as)=some r->
     Calls P g (v0::args).toArray w fun e w'=> ∃v ok' pA',e= .returned v/\w'.os=w.os/\w'.tape=w.tape/\w'.output=w.output/\w.heap.size<=w'.heap.size/\Sizes w w'/\
      (∀b,b < w.heap.size-> ¬ObjLoc shp pl pA b->w'.heap[b]? =w.heap[b]?)/\(∀b,ok b->ok' b)/\(∀b,ok' b->ok b\/(w.heap.size<=b/\b < w'.heap.size)\/ObjBuf shp pA b)/\ObjVal w' ok' shp r v0 pl pA'/\
      (∀b,ObjBuf shp pA' b->(w.heap.size<=b/\b < w'.heap.size)\/ObjBuf shp pA b)/\dI w' ok' s.res (r.drop shp.length) v)/\
     ∀w ok,PureAt P g [] s.res (fun as=>match as with | [.nilp]::rest=>s.fn ([.nilp]::rest) | _=>none) w ok
 | .look n=> ∀(w:World) (ok:Nat->Prop) (as:List (List IV)) (vs:List IV) (b base:Nat) (c:Array Value) (T:TypeId) (args:List Value) (r:List IV),(∀b,ok b->b < w.heap.size)->vs.length=n->w.heap[b]? =some (.cells c T (0,0))->base+n<=c.size->(∀(j:Nat) (x:IV),vs[j]? =some x-> ∃u:Value,c[base+j]? =some u/\RV w ok x u)->bh w ok as args->s.fn (vs::as)=some r->
     Calls P g (.pointer (some ⟨b,base,none⟩)::args).toArray w fun e w'=> ∃v,e= .returned v/\Below w.heap.size w w'/\dI w' (sj w ok w') s.res r v
 | .inl J=> ∀(w0:World) (ok0:O0) (w:World) (ok:Nat->Prop) (mu:Mu) (h:List Ob) (ps:List PV) (args:List Value) (p:PV) (h':List Ob),Inv w0 ok0 w ok mu h->(∀q,h.length<=q->mu q=none)->ps.length=args.length->(∀(i:Nat) (p:PV) (v:Value),ps[i]? =some p->args[i]? =some v->RP w ok mu p v)->
     J.run (PV×List Ob) ps h (fun p h=>some (p,h))=some (p,h')->Calls P g args.toArray w fun e w'=> ∃v,e= .returned v/\ ∃ok' mu',Later w ok mu w' ok' mu'/\Inv w0 ok0 w' ok' mu' h'/\RP w' ok' mu' p v/\ ∀q,h'.length<=q->mu' q=none
 | .mko shp=> ∀(w:World) (ok:Nat->Prop) (as:List (List IV)) (args:List Value) (r:List IV),(∀b,ok b->b < w.heap.size)->bh w ok as args->s.fn as=some r->
     Calls P g args.toArray w fun e w'=> ∃v ok' pl pA,e= .returned v/\Below w.heap.size w w'/\(∀b,ok b->ok' b)/\(∀b,ok' b->ok b\/(w.heap.size<=b/\b < w'.heap.size))/\ObjVal w' ok' shp r v pl pA/\
      ∀b,ObjLoc shp pl pA b->w.heap.size<=b/\b < w'.heap.size
def ak (P:Program) (Γ:FuncId->Option FSig):Prop:= ∀g s,Γ g=some s->Enters P g/\ah P g s
def ifV (b:Bool) (u:Value):Value:=if b then .agg #[u] else u
structure COK (P:Program) (C:IV->List Nat->List (List IV)->Option (List IV)):Prop where
 clo: ∀(x:IV) (ns:List Nat) (w:World) (ok:Nat->Prop) (v:Value),RV w ok x v->(∃as r,C x ns as=some r)-> ∃g cv,v= .func (.func g) #[] cv/\Enters P g/\PureAt P g cv.toList ns (C x ns) w ok
 ifc: ∀(t:TypeId) (name:String) (b:Bool) (y:IV) (ns:List Nat) (w:World) (ok:Nat->Prop) (u:Value),RV w ok y u->(∃as r,C (.map [[.clo (.methodOf t name) [y],.bool b,.nilp]]) ns as=some r)->
  ∃g,(∀w',(callMethod (.iface t (ifV b u)) name #[]).run P w'= .ok (.enter g #[ifV b u]) w')/\PureAt P g [ifV b u] ns (C (.map [[.clo (.methodOf t name) [y],.bool b,.nilp]]) ns) w ok
section
variable {P:Program} {w0:World} {ok0:O0} {o:Oper} {a:Act} {w:World} {ok:Nat->Prop} {mu:Mu} {h:List Ob} {fr:List PV}
theorem wJ (iq:InvQ w ok mu h) {p:PV} {v:Value} (r:RP w ok mu p v) (hok:RR p=true) {cs:List IV} (hc:B1 h p=some cs):ArgRel w (fX ok mu (fu h p)) cs v:=by
 have hwhole:p.whole=true:=by cases p<;>first | rfl | (simp [RR,PV.atom] at hok)
 obtain ⟨hs,hr⟩:=r.cellsRel hwhole
 obtain ⟨hl,hg⟩:=ed hc
 by_cases hagg: ∃l,p= .agg l
 ·obtain ⟨l,rfl⟩:=hagg
  have h2:2<=l.length:=by simpa [RR] using hok
  cases r with
  | agg l vs hlen hrel=>
    refine .inr ⟨by rw [hl];exact h2,vs,rfl,by rw [hl];exact hlen.symm,fun i x u h3 h4=> ?_⟩
    have hi:i < l.length:=by have:=(List.getElem?_eq_some_iff.1 h3).1;rw [hl] at this;exact this
    obtain ⟨x',h5,h6⟩:=hg i l[i] (List.getElem?_eq_getElem hi)
    rw [h3] at h5;cases h5
    refine (l7 iq 5 _ _ _ h6 (hrel i _ u (List.getElem?_eq_getElem hi) h4)).more fun b hb=>fX.sub (fun q hq=> ?_) hb
    simp only [fu,PV.cells,List.mem_flatMap]
    exact ⟨l[i],List.getElem_mem hi,hq⟩
 ·have hcells:p.cells=[p]:=by cases p<;>first | rfl | exact absurd ⟨_,rfl⟩ hagg
  have hpr:fu h p=refs h 5 p:=by simp [fu,hcells]
  rw [hpr]
  rw [B1,hcells] at hc
  simp only [List.mapM_cons,List.mapM_nil] at hc
  cases hx:mH h 5 p with
  | none=>simp [hx] at hc
  | some x=>simp [hx] at hc;subst hc;exact .inl ⟨x,rfl,l7 iq 5 _ _ _ hx r⟩
theorem ArgRel.more {ok':Nat->Prop} (hm: ∀b,ok b->ok' b) {cs:List IV} {v:Value} (r:ArgRel w ok cs v):ArgRel w ok' cs v:=by
 rcases r with ⟨x,h1,h2⟩ | ⟨h1,vs,h2,h3,h4⟩
 ·exact .inl ⟨x,h1,h2.more hm⟩
 ·exact .inr ⟨h1,vs,h2,h3,fun i x u h5 h6=>(h4 i x u h5 h6).more hm⟩
theorem gu (iq:InvQ w ok mu h) {xs:List Operand} (hf:Fr w ok mu fr a.tmps) {as:List (List IV)} (has:iU h (xs.map (ev fr))=some as):bh w (fX ok mu ((xs.map (ev fr)).flatMap (fu h))) as (xs.map a.eval):=by
 unfold iU at has
 split at has
 ·rename_i hall
  obtain ⟨hl,hg⟩:=ed has
  refine ⟨by simpa using hl,fun i c v h1 h2=> ?_⟩
  have hi:i < xs.length:=by have:=(List.getElem?_eq_some_iff.1 h1).1;rw [hl] at this;simpa using this
  obtain ⟨c',h3,h4⟩:=hg i (ev fr xs[i]) (by simp [hi])
  rw [h1] at h3;cases h3
  have hv:v=a.eval xs[i]:=by simp [hi] at h2;exact h2.symm
  subst hv
  have hok:=List.all_eq_true.1 hall (ev fr xs[i]) (List.mem_map.2 ⟨_,List.getElem_mem hi,rfl⟩)
  refine (wJ iq (hf.ev xs[i]) hok h4).more fun b hb=>fX.sub (fun q hq=> ?_) hb
  exact List.mem_flatMap.2 ⟨ev fr xs[i],List.mem_map.2 ⟨_,List.getElem_mem hi,rfl⟩,hq⟩
 ·cases has
theorem LN {ok':Nat->Prop} {mu':Mu} {w':World} {n:Nat} {r:List IV} {i:Nat} {v:Value} (hr:mT w' ok' n r i v):RP w' ok' mu' (MG n r i) v:=by
 unfold MG
 rcases hr with ⟨rfl,h1⟩ | ⟨h1,vs,rfl,h2,h3⟩
 ·simp;exact .imm h1
 ·rw [if_neg (by omega)]
  refine .agg _ _ (by rw [cm,h2]) fun j p u h4 h5=> ?_
  have hj:j < n:=by have:=(List.getElem?_eq_some_iff.1 h4).1;rw [cm] at this;exact this
  rw [oZ r i n j hj] at h4
  cases h4
  exact .imm (h3 j u h5)
theorem y5 (r:List IV): ∀(ns:List Nat) (i:Nat),(tD r ns i).length=ns.length
 | [],_=>rfl
 | n::ns,i=>by simp [tD,y5 r ns]
theorem LM {ok':Nat->Prop} {mu':Mu} {w':World} {r:List IV}: ∀(ns:List Nat) (i:Nat) (vs:List Value),gZ w' ok' r ns i vs->ns.length=vs.length/\ ∀(j:Nat) (p:PV) (v:Value),(tD r ns i)[j]? =some p->vs[j]? =some v->RP w' ok' mu' p v
 | [],i,[],_=>⟨rfl,fun j p v h1 _=>by simp [tD] at h1⟩
 | [],i,_::_,h=>h.elim
 | n::ns,i,[],h=>h.elim
 | n::ns,i,v::vs,h=>by
   obtain ⟨h1,h2⟩:=LM ns (i+n) vs h.2
   refine ⟨by simp [h1],fun j p u h3 h4=> ?_⟩
   cases j with
   | zero=>simp [tD] at h3 h4;subst h3;subst h4;exact LN h.1
   | succ j=>simp [tD] at h3 h4;exact h2 j p u h3 h4
theorem xA {ok':Nat->Prop} {mu':Mu} {w':World} {ns:List Nat} {r:List IV} {v:Value} (hr:dI w' ok' ns r v):RP w' ok' mu' (yG ns r) v:=by
 unfold yG dI at*
 split at hr
 ·exact LN hr
 ·rename_i hne
  obtain ⟨vs,rfl,h1⟩:=hr
  obtain ⟨h2,h3⟩:=LM (mu':=mu') _ 0 _ h1
  have key:RP w' ok' mu' (PV.tup (tD r ns 0)) (.tuple vs):= .tup _ _ (by rw [y5];simpa using h2) fun j p u h4 h5=>h3 j p u h4 (by simpa using h5)
  split
  ·exact absurd rfl (hne _)
  ·exact key
theorem mT.scalar {ok':Nat->Prop} {w':World} {n:Nat} {r:List IV} {i:Nat} {v:Value} (hs: ∀i,(nth r i).scalar=true) (hr:mT w ok n r i v):mT w' ok' n r i v:=by
 rcases hr with ⟨h0,h1⟩ | ⟨h1,vs,h0,h2,h3⟩
 ·exact .inl ⟨h0,h1.scalar (hs _)⟩
 ·exact .inr ⟨h1,vs,h0,h2,fun j u h=>(h3 j u h).scalar (hs _)⟩
theorem gZ.scalar {ok':Nat->Prop} {w':World} {r:List IV} (hs: ∀i,(nth r i).scalar=true): ∀(ns:List Nat) (i:Nat) (vs:List Value),gZ w ok r ns i vs->gZ w' ok' r ns i vs
 | [],i,[],_=>trivial
 | [],i,_::_,h=>h.elim
 | n::ns,i,[],h=>h.elim
 | n::ns,i,v::vs,h=>⟨h.1.scalar hs,gZ.scalar hs ns (i+n) vs h.2⟩
theorem dI.scalar {ok':Nat->Prop} {w':World} {ns:List Nat} {r:List IV} {v:Value} (hs: ∀i,(nth r i).scalar=true) (hr:dI w ok ns r v):dI w' ok' ns r v:=by
 unfold dI at*
 split
 ·exact mT.scalar hs hr
 ·rename_i hne
  split at hr
  ·exact absurd rfl (hne _)
  ·obtain ⟨vs,h1,h2⟩:=hr
   exact ⟨vs,h1,h2.scalar hs⟩
theorem Iz {r:List IV} (h: ∀x∈r,x.scalar=true) (i:Nat):(nth r i).scalar=true:=by
 unfold nth
 rw [List.getD_eq_getElem?_getD]
 cases hi:r[i]? with
 | none=>rfl
 | some x=>exact h x (List.mem_of_getElem? hi)
theorem lg {c:Call} {g:FuncId} (hop:o.op= .call c) (hc:c.callee= .value (.func g)) (hg:Enters P g):(execOp a.eval o).run P w= .ok (.enter g (c.args.toList.map a.eval).toArray) w:=by
 have:execOp a.eval o=callFunc g ((#[]++c.args.map a.eval)++ #[]):=by
  simp only [execOp,hop,resolve,hc,Act.eval,Deferred.ofValue]
  rfl
 rw [this,hg]
 congr 2
 apply Array.toList_inj.1
 simp
theorem tQ {c:Call} {x:Operand} (hop:o.op= .call c) (hc:c.callee= .value x) {g:FuncId} {cv:Array Value} (hx:a.eval x= .func (.func g) #[] cv) (hg:Enters P g):(execOp a.eval o).run P w= .ok (.enter g (c.args.toList.map a.eval++cv.toList).toArray) w:=by
 have:execOp a.eval o=callFunc g ((#[]++c.args.map a.eval)++cv):=by
  simp only [execOp,hop,resolve,hc,hx,Deferred.ofValue]
  rfl
 rw [this,hg]
 congr 2
 apply Array.toList_inj.1
 simp
theorem WI {g:FuncId} {args:List Value} {cap:List Value} {ns:List Nat} {fn:List (List IV)->Option (List IV)} {W:World} {OK:Nat->Prop} {fz:List Nat} {h1:List Ob} (hrun:(execOp a.eval o).run P w= .ok (.enter g (args++cap).toArray) w) (iq:InvQ w ok mu h) (hp:PureAt P g cap ns fn W OK) (hk:Keeps W OK w (fX ok mu fz))
  {as:List (List IV)} (has:bh w (fX ok mu fz) as args) {r:List IV} (hr:fn as=some r) (hfz:qK h fz=some h1):aq P o a w ok mu h (yG ns r) h1:=by
 refine ⟨[],fz,h1,hfz,by simp,fI.enter hrun ?_⟩
 have hlt: ∀b,fX ok mu fz b->b < w.heap.size:=fun b hb=>by
  rcases hb with hb | ⟨q,_,pl,base,h2,h3⟩
  ·exact iq.okw b hb
  ·exact iq.loc q pl b base h2 h3
 refine Calls.mono (hp w (fX ok mu fz) as args r hk hlt has hr) fun e w' he=> ?_
 obtain ⟨v,rfl,hb,hres⟩:=he
 refine ⟨v,rfl,sj w (fX ok mu fz) w',mu,⟨hb,fun b hb'=> .inl (.inl hb'),fun b hb'=> ?_,fun _ _=>rfl,.inl ⟨rfl,rfl⟩,xA hres⟩⟩
 rcases hb' with (hb' | hb') | hb'
 ·exact .inl hb'
 ·exact .inr (.inr hb')
 ·exact .inr (.inl hb')
theorem VQ {g:FuncId} {args:List Value} {ns:List Nat} {fn:List (List IV)->Option (List IV)} {fz:List Nat} (hrun:(execOp a.eval o).run P w= .ok (.enter g (args++[]).toArray) w) (iq:InvQ w ok mu h) (hp: ∀w ok,PureAt P g [] ns fn w ok)
  {as:List (List IV)} (has:bh w (fX ok mu fz) as args) {r:List IV} (hr:fn as=some r) (hs: ∀x∈r,x.scalar=true):aq P o a w ok mu h (yG ns r) h:=by
 refine ⟨[],[],h,rfl,by simp,fI.enter hrun ?_⟩
 have hlt: ∀b,fX ok mu fz b->b < w.heap.size:=fun b hb=>by
  rcases hb with hb | ⟨q,_,pl,base,h2,h3⟩
  ·exact iq.okw b hb
  ·exact iq.loc q pl b base h2 h3
 refine Calls.mono (hp w (fX ok mu fz) w (fX ok mu fz) as args r (.refl _ _) hlt has hr) fun e w' he=> ?_
 obtain ⟨v,rfl,hb,hres⟩:=he
 exact ⟨v,rfl,ok,mu,⟨hb,fun b hb'=>hb',fun b hb'=> .inl hb',fun _ _=>rfl,.inl ⟨rfl,rfl⟩,xA (hres.scalar (Iz hs))⟩⟩
theorem Fv: ∀{cs:List PV} {vs:List IV},Tq cs=some vs->vs.length=cs.length/\ ∀(j:Nat) (x:IV),vs[j]? =some x-> ∃p,cs[j]? =some p/\ ∀{w:World} {ok:Nat->Prop} {mu:Mu} {u:Value},RP w ok mu p u->RV w ok x u
 | [],vs,h=>by
   simp only [Tq,Option.some.injEq] at h
   subst h
   exact ⟨rfl,fun j x hx=>by simp at hx⟩
 | p::ps,vs,h=>by
   unfold Tq at h
   split at h
   ·rename_i heq;cases heq
   ·rename_i x ps' heq
    cases heq
    obtain ⟨vs',h1,rfl⟩:=Option.map_eq_some_iff.1 h
    obtain ⟨h2,h3⟩:=Fv h1
    refine ⟨by simp [h2],fun j y hy=> ?_⟩
    cases j with
    | zero=>simp at hy;subst hy;exact ⟨_,rfl,fun r=>by cases r with | imm r=>exact r⟩
    | succ j=>exact h3 j y (by simpa using hy)
   ·rename_i ps' heq
    cases heq
    obtain ⟨vs',h1,rfl⟩:=Option.map_eq_some_iff.1 h
    obtain ⟨h2,h3⟩:=Fv h1
    refine ⟨by simp [h2],fun j y hy=> ?_⟩
    cases j with
    | zero=>simp at hy;subst hy;exact ⟨_,rfl,fun r=>by cases r with | nils a=>exact RV.lst [] a 0 0 (fun _ _=>undef) (Nat.le_refl _) (by simp) (by simp) (by simp)⟩
    | succ j=>exact h3 j y (by simpa using hy)
   ·cases h
theorem YZ {g:FuncId} {s:FSig} {x:Operand} {xs:List Operand} {n q:Nat} (hrun:(execOp a.eval o).run P w= .ok (.enter g ((x::xs).map a.eval).toArray) w) (hmode:s.mode= .look n) (hs:ah P g s) (iq:InvQ w ok mu h) (hf:Fr w ok mu fr a.tmps)
  (hx:ev fr x= .ptr q 0) {vs:List IV} (ht:Xf h n q=some vs) {as:List (List IV)} (has:iU h (xs.map (ev fr))=some as) (hfz:((xs.map (ev fr)).flatMap (fu h)).isEmpty=true) {r:List IV} (hr:s.fn (vs::as)=some r):
  aq P o a w ok mu h (yG s.res r) h:=by
 have hargs0:=gu iq hf has
 rw [List.isEmpty_iff.1 hfz] at hargs0
 have hargs:bh w ok as (xs.map a.eval):=⟨hargs0.1,fun k c v h1 h2=>(hargs0.2 k c v h1 h2).more fun b hb=>by
  rcases hb with hb | ⟨q,hq,_⟩
  ·exact hb
  ·simp at hq⟩
 have rx:=hf.ev x
 rw [hx] at rx
 unfold Xf at ht
 split at ht
 ·rename_i md cs hg
  split at ht
  ·rename_i hn
   obtain ⟨hl,hat⟩:=Fv ht
   generalize hvx:a.eval x=vx at rx
   cases rx with
   | ptr _ _ pl b base hm hlb=>
     have hob:=iq.ob q pl hm
     rw [hg] at hob
     obtain ⟨b',base',c,T,e1,e2,e3,e4⟩:=hob
     rw [hlb] at e1;cases e1
     unfold ah at hs
     rw [hmode] at hs
     refine ⟨[],[],h,rfl,by simp,?_⟩
     have hrun':(execOp a.eval o).run P w= .ok (.enter g (.pointer (some ⟨b,base+0,none⟩)::xs.map a.eval).toArray) w:=by rw [hrun,List.map_cons,hvx]
     refine fI.enter hrun' (Calls.mono (hs w ok as vs b base c T (xs.map a.eval) r iq.okw (by omega) e2 (by omega) (fun j y hy=> ?_) hargs hr) fun e w' he=> ?_)
     ·obtain ⟨p,g1,g2⟩:=hat j y hy
      obtain ⟨u,g3,g4⟩:=e4 j p g1
      exact ⟨u,g3,g2 g4⟩
     ·obtain ⟨v,rfl,hb,hres⟩:=he
      refine ⟨v,rfl,sj w ok w',mu,⟨hb,fun b hb'=> .inl hb',fun b hb'=> ?_,fun _ _=>rfl,.inl ⟨rfl,rfl⟩,xA hres⟩⟩
      rcases hb' with hb' | hb'
      ·exact .inl hb'
      ·exact .inr (.inl hb')
  ·cases ht
 ·cases ht
theorem UW {w':World} {esz:Nat} {x:IV} {v:Value} {pl:Pl} (r:OwnVal w' ok esz x v pl) {mu':Mu} {md:Md}:ObOk w' ok mu' pl (.arr md esz x):=r.ob
theorem sw {w':World} {esz:Nat} {x:IV} {v:Value} {pl:Pl} (r:OwnVal w' ok esz x v pl) {mu':Mu} {n:Nat} (hm:mu' n=some pl):RP w' ok mu' (.buf n (bQ x)) v:=by
 obtain ⟨hsz,es,rfl,hlen,_⟩:=r.arr
 obtain ⟨A,cap,rfl,hh,hc⟩:=r.hdr
 have:bQ (.lst es)=pl.len:=by simp [bQ,hlen]
 rw [this]
 exact .buf n pl.len A cap pl hm rfl hh hc
theorem aaV {g:FuncId} {s:FSig} {args:List Value} {fz:List Nat} (hrun:(execOp a.eval o).run P w= .ok (.enter g args.toArray) w) (hmode:s.mode= .own) (hs:ah P g s) (iq:InvQ w ok mu h) (hn:mu h.length=none) {as:List (List IV)} (has:bh w ok as args) {r:List IV} (hr:s.fn as=some r):
  aq P o a w ok mu h (.buf h.length (bQ (nth r 0))) (h++[.arr .rw s.esz (nth r 0)]):=by
 refine ⟨[.arr .rw s.esz (nth r 0)],[],h,rfl,rfl,fI.enter hrun ?_⟩
 unfold ah at hs
 rw [hmode] at hs
 refine Calls.mono (hs w ok as args r iq.okw has hr) fun e w' he=> ?_
 obtain ⟨v,pl,rfl,hb,hov,hloc⟩:=he
 refine ⟨v,rfl,ok,fun q=>if q=h.length then some pl else mu q,hb,fun b hb'=>hb',fun b hb'=> .inl hb',fun q hq=>by simp [hq],.inr ⟨_,pl,rfl,by simp,rfl,hov.ob,fun b base hl=> ?_⟩,sw hov (by simp)⟩
 obtain ⟨h1,h2⟩:=hloc b base hl
 exact ⟨h1,h2,fun h3=>by have:=iq.okw b h3;omega⟩
theorem OwnVal.more {w':World} {ok ok':Nat->Prop} (hm: ∀b,ok b->ok' b) {esz:Nat} {x:IV} {v:Value} {pl:Pl} (r:OwnVal w' ok esz x v pl):OwnVal w' ok' esz x v pl:=by
 refine ⟨?_,r.hdr⟩
 obtain ⟨A,cap,_,_,hc⟩:=r.hdr
 have hpos:=r.ob.posC hc
 obtain ⟨q1,es,q2,q3,q4,q5,q6⟩:=r.arr
 refine .inl ⟨hpos,q1,es,q2,q3,q4,q5,fun b base hb=> ?_⟩
 obtain ⟨cc,T,q7,q8,q9⟩:=q6 b base hb
 refine ⟨cc,T,q7,q8,fun i j e x he hx=> ?_⟩
 obtain ⟨u,q10,q11⟩:=q9 i j e x he hx
 exact ⟨u,q10,q11.more hm⟩
theorem XW {g:FuncId} {s:FSig} {args:List Value} {fz:List Nat} (hrun:(execOp a.eval o).run P w= .ok (.enter g args.toArray) w) (hmode:s.mode= .fresh) (hs:ah P g s) (iq:InvQ w ok mu h) (hn:mu h.length=none) {as:List (List IV)} (has:bh w (fX ok mu fz) as args) {r:List IV} (hr:s.fn as=some r):
  aq P o a w ok mu h (.buf h.length (bQ (nth r 0))) (h++[.arr .rw s.esz (nth r 0)]):=by
 refine ⟨[.arr .rw s.esz (nth r 0)],[],h,rfl,rfl,fI.enter hrun ?_⟩
 have hlt: ∀b,fX ok mu fz b->b < w.heap.size:=fun b hb=>by
  rcases hb with hb | ⟨q,_,pl,base,h2,h3⟩
  ·exact iq.okw b hb
  ·exact iq.loc q pl b base h2 h3
 unfold ah at hs
 rw [hmode] at hs
 refine Calls.mono (hs w _ as args r hlt has hr) fun e w' he=> ?_
 obtain ⟨v,pl,rfl,hb,hov0,hloc⟩:=he
 have hov:OwnVal w' ok s.esz (nth r 0) v pl:=hov0.more fun _ h=>h.elim
 refine ⟨v,rfl,ok,fun q=>if q=h.length then some pl else mu q,hb,fun b hb'=>hb',fun b hb'=> .inl hb',fun q hq=>by simp [hq],.inr ⟨_,pl,rfl,by simp,rfl,hov.ob,fun b base hl=> ?_⟩,sw hov (by simp)⟩
 obtain ⟨h1,h2⟩:=hloc b base hl
 exact ⟨h1,h2,fun h3=>by have:=iq.okw b h3;omega⟩
end
end Go.AM
namespace Go.AM
open Go.RowKit
section
variable {P:Program} {w0:World} {ok0:O0} {o:Oper} {a:Act} {w:World} {ok:Nat->Prop} {mu:Mu} {h:List Ob} {fr:List PV}
theorem Inv.freeze (i:Inv w0 ok0 w ok mu h) (hfresh: ∀q,h.length<=q->mu q=none) {l:List Nat} {h1:List Ob} (hf:qK h l=some h1):Inv w0 ok0 w (fX ok mu l) mu h1:=by
 have g:Grow w ok mu h.length [] l .nils (.slice none 0 0) w (fX ok mu l) mu:=⟨.refl _ _,fun b hb=> .inl hb,fun b hb=>Or.elim hb .inl (fun hb=> .inr (.inr hb)),fun _ _=>rfl,.inl ⟨rfl,rfl⟩,.nils _⟩
 have:=(i.grow hfresh (dx hf) g).1
 simpa using this
theorem ZX {g:FuncId} {s:FSig} {x:Operand} {xs:List Operand} (hrun:(execOp a.eval o).run P w= .ok (.enter g ((x::xs).map a.eval).toArray) w) (hmode:s.mode= .cons) (hs:ah P g s) (i:Inv w0 ok0 w ok mu h) (hfresh: ∀q,h.length<=q->mu q=none) (hf:Fr w ok mu fr a.tmps)
  {q n:Nat} (hx:ev fr x= .buf q n) {sz:Nat} {x0:IV} (hg:getOb h q= .arr .rw sz x0) {as:List (List IV)} (has:iU h (xs.map (ev fr))=some as) {h1:List Ob} (hfz:qK h ((xs.map (ev fr)).flatMap (fu h))=some h1) {sz1:Nat} {x1:IV} (hg1:getOb h1 q= .arr .rw sz1 x1) (hsz:sz=s.esz) {r:List IV} (hr:s.fn ([x0]::as)=some r):
  pX P w0 ok0 o a w ok mu (.buf h.length (bQ (nth r 0))) (h1.set q .dead++[.arr .rw s.esz (nth r 0)]):=by
 have hargs:=gu i.q hf has
 have rx:=hf.ev x
 rw [hx] at rx
 have i1:=i.freeze hfresh hfz
 have hfr:=dx hfz
 have hfresh1: ∀q,h1.length<=q->mu q=none:=fun q hq=>hfresh q (by rw [<-hfr.len];exact hq)
 subst hsz
 generalize hok1:fX ok mu ((xs.map (ev fr)).flatMap (fu h))=ok1 at*
 cases hxv:a.eval x with
 | slice A n' cap=>
   rw [hxv] at rx
   cases rx with
   | buf q n A cap pl hm hn hh hc=>
     subst hn
     have hlive1:(getOb h1 q).live=true:=by rw [hg1];rfl
     have hnf1:(getOb h1 q).fz=false:=by rw [hg1];rfl
     have hsame:x1=x0/\sz1=s.esz:=by
      rcases hfr.same q with e | ⟨_,cs,m,e1,_⟩ | ⟨s',y,m,e1,e2⟩
      ·rw [hg1,hg] at e;cases e;exact ⟨rfl,rfl⟩
      ·rw [hg] at e1;cases e1
      ·rw [hg1] at e2;cases e2
     obtain ⟨rfl,rfl⟩:=hsame
     have hov:OwnVal w ok1 s.esz x1 (.slice A pl.len cap) pl:=by
      refine ⟨?_,A,cap,rfl,hh,hc⟩
      have:=i1.ob q pl hm
      rw [hg1] at this
      exact this
     have hnok: ∀b base,pl.loc=some (b,base)-> ¬ok1 b:=fun b base hl=>(i1.own q pl b base hm hl).2.2 hlive1 hnf1
     have hsig:=hs
     unfold ah at hsig
     rw [hmode] at hsig
     have hrun':(execOp a.eval o).run P w= .ok (.enter g (.slice A pl.len cap::xs.map a.eval).toArray) w:=by rw [hrun];simp [hxv]
     refine fI.enter hrun' (Calls.mono (hsig w ok1 as x1 _ pl (xs.map a.eval) r i1.okw hov hnok hargs hr) fun e w' he=> ?_)
     obtain ⟨v,npl,rfl,hos,htape,hout,hsize,hsizes,hother,hov',hloc⟩:=he
     have hlater1:Later w ok1 mu w' ok1 (fun k=>if k=h1.length then some npl else mu k):=by
      refine ⟨⟨fun b hb=>hother b (i1.okw b hb) fun base hl=>hnok b base hl hb,fun _ h=>h⟩,fun k pk hk=> ?_,hsizes⟩
      have:k≠h1.length:=fun e=>by rw [e,hfresh1 _ (Nat.le_refl _)] at hk;cases hk
      simpa [this] using hk
     have hbelow:BelowM ok0.lent w0.heap.size w0 w':=⟨hos.trans i.below.os,htape.trans i.below.tape,hout.trans i.below.output,Nat.le_trans i.below.size hsize,fun k hk hmm=>(hother k (Nat.lt_of_lt_of_le hk i.below.size) fun base hl=>(i.own q pl k base hm hl).1.ne hk hmm rfl).trans (i.below.block k hk hmm)⟩
     obtain ⟨g1,g2⟩:=i1.swap hfresh1 hm hlive1 (npl:=npl) hlater1 hbelow hsize hother (ob:= .arr .rw s.esz (nth r 0)) rfl (UW hov') (fun b base hl=>by
      rcases hloc b base hl with ⟨k1,k2⟩ | ⟨base',k1⟩
      ·exact .inl ⟨k1,k2,fun hb=>by have:=i1.okw b hb;omega⟩
      ·exact .inr ⟨base',k1,hnok b base' k1⟩)
     have hlater0:Later w ok mu w ok1 mu:=⟨⟨fun _ _=>rfl,fun b hb=>by rw [<-hok1];exact .inl hb⟩,fun _ _ h=>h,.refl _⟩
     refine ⟨v,rfl,ok1,_,hlater0.trans hlater1,g1,?_,g2⟩
     rw [<-hfr.len]
     exact sw hov' (by simp)
 | _=>rw [hxv] at rx;cases rx
theorem YQ {g:FuncId} {s:FSig} {x:Operand} {xs:List Operand} (hrun:(execOp a.eval o).run P w= .ok (.enter g ((x::xs).map a.eval).toArray) w) (hmode:s.mode= .inpl) (hs:ah P g s) (i:Inv w0 ok0 w ok mu h) (hfresh: ∀q,h.length<=q->mu q=none) (hf:Fr w ok mu fr a.tmps)
  {q n:Nat} (hx:ev fr x= .buf q n) {sz:Nat} {x0:IV} (hg:getOb h q= .arr .rw sz x0) {as:List (List IV)} (has:iU h (xs.map (ev fr))=some as) (hfz:((xs.map (ev fr)).flatMap (fu h)).isEmpty=true) (hsz:sz=s.esz) {r:List IV} (hr:s.fn ([x0]::as)=some r):
  pX P w0 ok0 o a w ok mu .undef (h.set q (.arr .rw sz (nth r 0))):=by
 have hargs0:=gu i.q hf has
 rw [List.isEmpty_iff.1 hfz] at hargs0
 have hargs:bh w ok as (xs.map a.eval):=⟨hargs0.1,fun k c v h1 h2=>(hargs0.2 k c v h1 h2).more fun b hb=>by
  rcases hb with hb | ⟨q,hq,_⟩
  ·exact hb
  ·simp at hq⟩
 have rx:=hf.ev x
 rw [hx] at rx
 subst hsz
 cases hxv:a.eval x with
 | slice A n' cap=>
   rw [hxv] at rx
   cases rx with
   | buf q n A cap pl hm hn hh hc=>
     subst hn
     have hlive:(getOb h q).live=true:=by rw [hg];rfl
     have hnf:(getOb h q).fz=false:=by rw [hg];rfl
     have hov:OwnVal w ok s.esz x0 (.slice A pl.len cap) pl:=by
      refine ⟨?_,A,cap,rfl,hh,hc⟩
      have:=i.ob q pl hm
      rw [hg] at this
      exact this
     have hnok: ∀b base,pl.loc=some (b,base)-> ¬ok b:=fun b base hl=>(i.own q pl b base hm hl).2.2 hlive hnf
     have hsig:=hs
     unfold ah at hsig
     rw [hmode] at hsig
     have hrun':(execOp a.eval o).run P w= .ok (.enter g (.slice A pl.len cap::xs.map a.eval).toArray) w:=by rw [hrun];simp [hxv]
     refine fI.enter hrun' (Calls.mono (hsig w ok as x0 _ pl (xs.map a.eval) r i.okw hov hnok hargs hr) fun e w' he=> ?_)
     obtain ⟨v,rfl,hos,htape,hout,hsize,hsizes,hother,ok',hok1,hok2,hob'⟩:=he
     obtain ⟨i2,l2⟩:=i.lentout (os:=[q]) (ok':=ok') (fun q' hq=>by rw [List.mem_singleton.1 hq];exact ⟨hlive,hnf⟩) hos htape hout hsize hsizes (fun b hb hne=>hother b hb fun base=>hne q (List.mem_singleton.2 rfl) pl base hm) hok1 fun b hb=>(hok2 b hb).imp id .inl
     have hol:q < h.length:=iT hlive
     have i3:=i2.revive hm (by rw [dQ];exact hol) (ob:= .arr .rw s.esz (nth r 0)) hob' (fun b base hl hb=>by
      rcases hok2 b hb with g | g
      ·exact hnok b base hl g
      ·have:=(i.own q pl b base hm hl).2.1;omega) fun b base q2 plq base' hne hmq hl hlq=>by
       cases hx:(getOb (kill h [q]) q2).live with
       | false=>rfl
       | true=>
         rw [j8,if_neg (by simpa using hne)] at hx
         exact absurd (i.inj q2 q plq pl b base' base hmq hm hlq hl hx hlive) hne
     refine ⟨v,rfl,ok',mu,l2,?_,.undef v,fun q' hq'=>hfresh q' (by simpa using hq')⟩
     have he:(kill h [q]).set q (.arr .rw s.esz (nth r 0))=h.set q (.arr .rw s.esz (nth r 0)):=by simp [kill]
     rw [<-he];exact i3
 | _=>rw [hxv] at rx;cases rx
theorem za (sz:Nat): ∀(n:Nat) (l:List PV) (i:Nat),i < n->(chunks sz n l)[i]? =some ((l.drop (i*sz)).take sz)
 | 0,l,i,h=>by omega
 | n+1,l,0,h=>by simp [chunks]
 | n+1,l,i+1,h=>by
   have ih:=za sz n (l.drop sz) i (by omega)
   simp only [chunks,List.getElem?_cons_succ]
   rw [ih,List.drop_drop,Nat.succ_mul,Nat.add_comm]
theorem yA (sz:Nat): ∀(n:Nat) (l:List PV),(chunks sz n l).length=n
 | 0,l=>rfl
 | n+1,l=>by simp [chunks,yA sz n]
theorem Bl {α:Type} (cs:List α): ∀(n i:Nat),i < n*cs.length->((List.range n).flatMap fun _=>cs)[i]? =cs[i % cs.length]? :=by
 intro n
 have: ∀(k n i:Nat),i < n*cs.length->((List.range' k n).flatMap fun _=>cs)[i]? =cs[i % cs.length]? :=by
  intro k n
  induction n generalizing k with
  | zero=>intro i h;simp at h
  | succ n ih=>
    intro i h
    rw [List.range'_succ,List.flatMap_cons]
    by_cases hl:i < cs.length
    ·rw [List.getElem?_append_left hl,Nat.mod_eq_of_lt hl]
    ·rw [List.getElem?_append_right (by omega),ih (k+1) (i - cs.length) (by rw [Nat.succ_mul] at h;omega)]
     congr 1
     exact (Nat.mod_eq_sub_mod (by omega)).symm
 intro i h
 rw [List.range_eq_range']
 exact this 0 n i h
theorem LD (c:Nat): ∀n:Nat,((List.range n).map fun _=>c).sum=n*c
 | 0=>by simp
 | n+1=>by rw [List.range_succ,List.map_append,List.sum_append,LD c n,Nat.succ_mul];simp
theorem OJ {t:TypeId} {len:Nat} {parts:Array (Nat×Operand)} (hop:o.op= .buildSlice t len parts) {e:TypeId} (hu:P.underlying t=some (.slice e)) (iq:InvQ w ok mu h) (hn:mu h.length=none) (hf:Fr w ok mu fr a.tmps) {cs:List PV}
  (hcs:(if len=0 then some [] else match gh P e with
     | some z=>yE (fun i=>some (i*P.cellsOf e,P.cellsOf e)) ((List.range len).flatMap fun _=>(ig z).cells) (parts.toList.map fun p=>(p.1,ev fr p.2))
     | none=>none)=some cs) (hparts:len=0->parts= #[]) {es:List (List IV)} (hes:(chunks (P.cellsOf e) len cs).mapM (fun c=>c.mapM (mH h 5))=some es) {h1:List Ob} (hfz:qK h (cs.flatMap (refs h 5))=some h1)
  (hb1:len<=1000) (hb2:P.cellsOf e<=100) (hpos:0 < P.cellsOf e) (hzs:len≠0-> ∃z,gh P e=some z/\z.cells.size=P.cellsOf e):aq P o a w ok mu h (.buf h.length len) (h1++[.arr .rw (P.cellsOf e) (.lst es)]):=by
 obtain ⟨ie,hie⟩:=Option.isSome_iff_exists.1 (gG hpos)
 have hex:execOp a.eval o=(do pure (Next.value (<-Instr.buildSlice t len (parts.map fun (i,x)=>(i,a.eval x))))):=by simp [execOp,hop]
 obtain ⟨hesl,hesg⟩:=ed hes
 rw [yA] at hesl
 have hlim: ¬(len*P.cellsOf e > 2 ^ 24):=by
  have:len*P.cellsOf e<=1000*100:=Nat.mul_le_mul hb1 hb2
  omega
 have hcells: ∃vs:Array Value,(Instr.buildSlice t len (parts.map fun (i,x)=>(i,a.eval x))).run P w= .ok (.slice (some ⟨w.heap.size,0,none⟩) len len) (w.alloc (.cells vs e))/\BA w ok mu cs vs/\cs.length=len*P.cellsOf e:=by
  by_cases h0:len=0
  ·subst h0
   rw [hparts rfl]
   simp only [if_true,Option.some.injEq] at hcs
   subst hcs
   refine ⟨#[],?_,⟨by simp,fun i p v h1 _=>by simp at h1⟩,by simp⟩
   simp [Instr.buildSlice,run_underlying hu,run_sizeOf w hie,Instr.fill,newRow,Sem.run_bind,Result.andThen,pure,Sem.run]
   congr 2
   apply Array.eq_empty_of_size_eq_zero
   simp
  ·obtain ⟨z,hz,hzsz⟩:=hzs h0
   rw [if_neg h0,hz] at hcs
   simp only at hcs
   have hz':ie.zero=some z:=by simpa [gh,hie] using hz
   obtain ⟨hzl,hzr⟩:=iB (w:=w) (ok:=ok) (mu:=mu) z
   have hcl:(ig z).cells.length=P.cellsOf e:=by rw [hzl,hzsz]
   have hR0:BA w ok mu ((List.range len).flatMap fun _=>(ig z).cells) ((Array.range (len*P.cellsOf e)).map (z.cells[· % z.cells.size]!)):=by
    refine ⟨by simp [hcl,List.length_flatMap,LD],fun i p v h3 h4=> ?_⟩
    have hi:i < len*P.cellsOf e:=by
     have:=(Array.getElem?_eq_some_iff.1 h4).1;simpa using this
    rw [Bl _ _ _ (by rw [hcl];exact hi),hcl] at h3
    obtain ⟨u,h5,h6⟩:=hzr _ p h3
    have:v=u:=by
     have hv:v=z.cells[i % z.cells.size]! :=by simp [hi] at h4;exact h4.symm
     rw [hv,hzsz]
     have:=h5
     rw [getElem!_def,this]
    rw [this];exact h6
   obtain ⟨vs,h3,h4⟩:=xG _ _ hR0 (Cc hf parts.toList) hcs
   have hmap:(parts.map fun (i,x)=>(i,a.eval x)).toList=parts.toList.map fun p=>(p.1,a.eval p.2):=by simp
   refine ⟨vs,?_,h4,?_⟩
   ·have hne:len*P.cellsOf e≠0:=Nat.mul_ne_zero h0 (by omega)
    have hne2: ¬(len=0\/P.cellsOf e=0):=by omega
    simp only [Instr.buildSlice,Sem.run_bind,run_underlying hu,run_sizeOf w hie,Result.andThen_ok,if_neg hlim,if_neg hne,zeroValue,run_typeInfo w hie,hz',Sem.run_pure,hmap,h3,newRow]
    rfl
   ·have hl:=h4.1
    have:vs.size=((Array.range (len*P.cellsOf e)).map (z.cells[· % z.cells.size]!)).size:=by
     clear hl h4 hmap hR0
     have key: ∀(place:Nat->Option (Nat×Nat)) (l:List (Nat×Value)) (c c':Array Value),Instr.fill place c l=some c'->c'.size=c.size:=by
      intro place l
      induction l with
      | nil=>intro c c' h;simp [Instr.fill] at h;rw [h]
      | cons p l ih=>
        intro c c' h
        obtain ⟨i,u⟩:=p
        simp only [Instr.fill] at h
        split at h
        ·cases h
        ·split at h
         ·cases h
         ·rw [ih _ _ h]
          have hfold: ∀(l:List (Value×Nat)) (c:Array Value) (f:Nat),(l.foldl (fun cs (x:Value×Nat)=>cs.setIfInBounds (f+x.2) x.1) c).size=c.size:=by
           intro l
           induction l with
           | nil=>intro c f;rfl
           | cons x l ih=>intro c f;simp only [List.foldl_cons];rw [ih];simp
          rw [<-Array.foldl_toList]
          exact hfold _ _ _
     exact key _ _ _ _ h3
    rw [hl,this];simp
 obtain ⟨vs,hrun,hrel,hcl⟩:=hcells
 have hall: ∀e'∈es,e'.length=P.cellsOf e:=fun e' he'=>by
  obtain ⟨i,hi⟩:=ni he'
  have hil:i < len:=by rw [<-hesl];exact (List.getElem?_eq_some_iff.1 hi).1
  obtain ⟨e2,h3,h4⟩:=hesg i _ (za _ _ _ _ hil)
  rw [hi] at h3;cases h3
  rw [(ed h4).1]
  have:=wY (sz:=P.cellsOf e) hil (j:=P.cellsOf e - 1) (by omega)
  simp;omega
 let fz:=cs.flatMap (refs h 5)
 let npl:Pl:=⟨some (w.heap.size,0),len,P.cellsOf e⟩
 refine ⟨[.arr .rw (P.cellsOf e) (.lst es)],fz,h1,hfz,rfl,fI.value (by rw [hex];exact eU hrun) ⟨fX ok mu fz,fun q=>if q=h.length then some npl else mu q,?_⟩⟩
 have hlt: ∀b,fX ok mu fz b->b < w.heap.size:=fun b hb=>by
  rcases hb with hb | ⟨q,_,pl,base,h2,h3⟩
  ·exact iq.okw b hb
  ·exact iq.loc q pl b base h2 h3
 have hk:Keeps w (fX ok mu fz) (w.alloc (.cells vs e)) (fX ok mu fz):=⟨fun b hb=>Below.heap_alloc w _ b (hlt b hb),fun _ h=>h⟩
 have hrows:Rows w (fX ok mu fz) es (P.cellsOf e) vs.toList:=by
  have hcell: ∀i j e' x,es[i]? =some e'->e'[j]? =some x-> ∃v,vs.toList[i*P.cellsOf e+j]? =some v/\RV w (fX ok mu fz) x v:=by
   intro i j e' x hi hj
   have hil:i < len:=by rw [<-hesl];exact (List.getElem?_eq_some_iff.1 hi).1
   obtain ⟨e2,h3,h4⟩:=hesg i _ (za _ _ _ _ hil)
   rw [hi] at h3;cases h3
   have hjl:j < P.cellsOf e:=by rw [<-hall e' (List.mem_of_getElem? hi)];exact (List.getElem?_eq_some_iff.1 hj).1
   have hq:i*P.cellsOf e+j < cs.length:=by rw [hcl];exact wY hil hjl
   have hcq:((cs.drop (i*P.cellsOf e)).take (P.cellsOf e))[j]? =some cs[i*P.cellsOf e+j]:=by
    rw [List.getElem?_take_of_lt hjl,List.getElem?_drop,List.getElem?_eq_getElem hq]
   obtain ⟨x',h5,h6⟩:=(ed h4).2 j _ hcq
   rw [hj] at h5;cases h5
   have hqv:i*P.cellsOf e+j < vs.size:=by rw [<-hrel.1];exact hq
   refine ⟨vs[i*P.cellsOf e+j],by simp [hqv],?_⟩
   refine (l7 iq 5 _ _ _ h6 (hrel.2 _ _ _ (List.getElem?_eq_getElem hq) (Array.getElem?_eq_getElem hqv))).more fun b hb=>fX.sub (fun q hq'=> ?_) hb
   exact List.mem_flatMap.2 ⟨_,List.getElem_mem hq,hq'⟩
  refine ⟨by rw [Array.length_toList,<-hrel.1,hcl,hesl],fun v hv=> ?_,hcell⟩
  obtain ⟨q,hq⟩:=ni hv
  have hql:q < len*P.cellsOf e:=by rw [<-hcl,hrel.1];have:=(List.getElem?_eq_some_iff.1 hq).1;simpa using this
  have hdiv:q / P.cellsOf e < es.length:=by rw [hesl];exact Nat.div_lt_of_lt_mul (by rw [Nat.mul_comm];exact hql)
  have hmod:q % P.cellsOf e < P.cellsOf e:=Nat.mod_lt _ hpos
  have hel:es[q / P.cellsOf e].length=P.cellsOf e:=hall _ (List.getElem_mem hdiv)
  obtain ⟨v',h1,h2⟩:=hcell _ _ _ _ (List.getElem?_eq_getElem hdiv) (List.getElem?_eq_getElem (show q % P.cellsOf e < es[q / P.cellsOf e].length by omega))
  have hqe:q / P.cellsOf e*P.cellsOf e+q % P.cellsOf e=q:=by rw [Nat.mul_comm];exact Nat.div_add_mod q _
  rw [hqe,hq] at h1
  cases h1
  exact h2.atomic
 refine ⟨(Below.refl _ _).alloc (Nat.le_refl _) _,fun b hb=> .inl hb,fun b hb=> ?_,fun q hq=>by simp [hq],.inr ⟨_,npl,rfl,by simp,rfl,?_,fun b base hb=> ?_⟩,?_⟩
 ·rcases hb with hb | hb
  ·exact .inl hb
  ·exact .inr (.inr hb)
 ·have:=pL (mu':=fun q=>if q=h.length then some npl else mu q) (md:= .rw) (base:=0) (ea w (.cells vs e)) hall (hrows.later hk) (fun q hq=>by simp) (by rw [hesl,<-hcl,hrel.1];simp)
  rw [hesl] at this
  exact this
 ·cases hb
  exact ⟨Nat.le_refl _,by show w.heap.size < (w.heap.push _).size;simp,fun hb=>by have:=hlt _ hb;omega⟩
 ·refine .buf _ _ (some ⟨w.heap.size,0,none⟩) len npl (by simp) rfl ⟨Nat.le_refl _,.inr ⟨w.heap.size,0,rfl,by simp⟩⟩ fun b base hb=> ?_
  cases hb
  exact ⟨vs,e,_,ea w _,by rw [<-hrel.1,hcl];simp [npl]⟩
end
end Go.AM
namespace Go.AM
open Go.RowKit
theorem ub (q:Nat) (r:List IV): ∀(shp:List Sc) (k i:Nat),(bI q r shp k i).length=shp.length
 | [],_,_=>rfl
 | s::ss,k,i=>by simp only [bI,List.length_cons,ub q r ss]
theorem iD (r:List IV): ∀(shp:List Sc) (i:Nat),(bp r shp i).length=shp.length
 | [],_=>rfl
 | s::ss,i=>by simp only [bp,List.length_cons,iD r ss]
theorem AD (q:Nat) (r:List IV): ∀(shp:List Sc) (k i j:Nat),(bI q r shp k i)[j]? =(shp[j]?).map (B9 q (k+j) (nth r (i+j)))
 | [],_,_,_=>rfl
 | s::ss,k,i,0=>rfl
 | s::ss,k,i,j+1=>by
   simp only [bI,List.getElem?_cons_succ]
   rw [AD q r ss (k+1) (i+1) j,show k+1+j=k+(j+1) by omega,show i+1+j=i+(j+1) by omega]
theorem Dy (r:List IV): ∀(shp:List Sc) (i j:Nat),(bp r shp i)[j]? =(shp[j]?).map (WR (nth r (i+j)))
 | [],_,_=>rfl
 | s::ss,i,0=>rfl
 | s::ss,i,j+1=>by
   simp only [bp,List.getElem?_cons_succ]
   rw [Dy r ss (i+1) j,show i+1+j=i+(j+1) by omega]
theorem jM: ∀{l m:List Nat},cC (l++m)=true->cC m=true/\ ∀k∈l,k∉m
 | [],m,h=>⟨h,fun k hk=>by cases hk⟩
 | x::l,m,h=>by
   simp only [List.cons_append,cC,Bool.and_eq_true,Bool.not_eq_true',List.contains_eq_mem,decide_eq_false_iff_not] at h
   obtain ⟨h1,h2⟩:=jM h.2
   refine ⟨h1,fun k hk=> ?_⟩
   rcases List.mem_cons.1 hk with rfl | hk
   ·exact fun h3=>h.1 (List.mem_append_right _ h3)
   ·exact h2 k hk
theorem DD: ∀{l m:List Nat},cC (l++m)=true->cC l=true
 | [],m,h=>rfl
 | x::l,m,h=>by
   simp only [List.cons_append,cC,Bool.and_eq_true,Bool.not_eq_true',List.contains_eq_mem,decide_eq_false_iff_not] at h ⊢
   exact ⟨fun h3=>h.1 (List.mem_append_left _ h3),DD h.2⟩
section
variable {P:Program} {w0:World} {ok0:O0} {o:Oper} {a:Act} {w:World} {ok:Nat->Prop} {mu:Mu} {h:List Ob} {fr:List PV}
theorem uH.more {ok':Nat->Prop} (hmore: ∀b,ok b->ok' b) {pl:Pl} {sz:Nat} {x:IV} (h:uH w ok pl sz x):uH w ok' pl sz x:=by
 obtain ⟨q1,es,q2,q3,q4,q5,q6⟩:=h
 refine ⟨q1,es,q2,q3,q4,q5,fun b base hb=> ?_⟩
 obtain ⟨cc,T,q7,q8,q9⟩:=q6 b base hb
 refine ⟨cc,T,q7,q8,fun i j e x he hx=> ?_⟩
 obtain ⟨u,q10,q11⟩:=q9 i j e x he hx
 exact ⟨u,q10,q11.more hmore⟩
theorem H9 (i:Inv w0 ok0 w ok mu h) {sz:Nat} {p:PV} {x:IV} {os:List Nat} (ht:vZ h sz p=some (x,os)) {v:Value} (r:RP w ok mu p v):
  ∃plA,0 < sz/\uH w ok plA sz x/\(∀mu0:Mu,∀q,mu0 q=some plA->RP w ok mu0 (.buf q (bQ x)) v)/\(∀q∈os,(∃y,getOb h q= .arr .rw sz y)/\ ∃plq,mu q=some plq/\plq.loc=plA.loc)/\(∀b base,plA.loc=some (b,base)->os≠[]):=by
 unfold vZ at ht
 split at ht
 ·split at ht
  ·rename_i hpos
   cases ht
   refine ⟨⟨none,0,sz⟩,hpos,⟨rfl,[],rfl,rfl,by simp,fun _=>rfl,fun b base hb=>by cases hb⟩,fun mu0 q hq=> ?_,by simp,fun b base hb=>by cases hb⟩
   cases r
   exact .buf q 0 _ 0 _ hq rfl ⟨Nat.le_refl _,.inl ⟨rfl,rfl⟩⟩ fun b base hb=>by cases hb
  ·cases ht
 ·rename_i o2 l
  split at ht
  ·rename_i sz' y hg
   split at ht
   ·rename_i hsz
    subst hsz
    cases ht
    cases r with
    | buf _ _ A cap pl hm hn hh hc=>
      have hob:=i.ob o2 pl hm
      rw [hg] at hob
      have harr:=hob.arrC hc
      refine ⟨pl,hob.posC hc,harr,fun mu0 q hq=> ?_,fun q hq=> ?_,fun _ _ _=>by simp⟩
      ·obtain ⟨_,es,rfl,hl,_⟩:=harr
       have:bQ (.lst es)=l:=by rw [hn];exact hl
       rw [this]
       exact .buf q l A cap pl hq hn hh hc
      ·rw [List.mem_singleton.1 hq]
       exact ⟨⟨_,hg⟩,pl,hm,rfl⟩
   ·cases ht
  ·cases ht
 ·rename_i o2 u
  split at ht
  ·rename_i sz' y hg
   split at ht
   ·rename_i hsz
    subst hsz
    cases ht
    cases r with
    | sub _ _ _ A cap pl hm hl hn hh hc=>
      have hob:=i.ob o2 pl hm
      rw [hg] at hob
      have hcc: ∀b base,pl.loc=some (b,base)-> ∃(c:Array Value) (T:TypeId) (z:Nat×Nat),w.heap[b]? =some (.cells c T z)/\base+cap*pl.sz<=c.size:=fun b base hb=>by
       obtain ⟨c,T,z,h1,h2⟩:=hc b base hb
       exact ⟨c,T,z,h1,by rw [Nat.zero_add] at h2;exact h2⟩
      have harr:=hob.arrC hcc
      have harr':uH w ok ⟨pl.loc,u,pl.sz⟩ sz' (ze y 0 u):=by
       obtain ⟨h1,es,rfl,h2,h3,h4,h5⟩:=harr
       refine ⟨h1,es.take u,by simp [ze],by simp;omega,fun e he=>h3 e (List.mem_of_mem_take he),fun hn'=>by simp [h4 hn'],fun b base hb=> ?_⟩
       obtain ⟨c,T,h6,h7,h8⟩:=h5 b base hb
       refine ⟨c,T,h6,Nat.le_trans (Nat.add_le_add_left (Nat.mul_le_mul_right _ (by simp;omega)) _) h7,fun i j e x he hx=>h8 i j e x ?_ hx⟩
       have hi:i < u:=by have:=(List.getElem?_eq_some_iff.1 he).1;simp at this;omega
       rw [List.getElem?_take_of_lt hi] at he
       exact he
      refine ⟨⟨pl.loc,u,pl.sz⟩,hob.posC hcc,harr',fun mu0 q hq=> ?_,fun q hq=> ?_,fun _ _ _=>by simp⟩
      ·obtain ⟨_,es,e1,hl',_⟩:=harr'
       have:bQ (ze y 0 u)=u:=by rw [e1];exact hl'
       rw [this]
       refine .buf q u A cap ⟨pl.loc,u,pl.sz⟩ hq rfl ?_ hcc
       refine ⟨hh.1,?_⟩
       rcases hh.2 with ⟨g1,g2⟩ | g
       ·exact .inl ⟨by omega,g2⟩
       ·exact .inr g
      ·rw [List.mem_singleton.1 hq]
       exact ⟨⟨_,hg⟩,pl,hm,rfl⟩
   ·cases ht
  ·cases ht
 ·cases ht
theorem CellVal.rp {pl pA:Pl} {x:IV} {u:Value} {s:Sc} (hv:CellVal w ok pl pA x u s) {q k b base:Nat} (hq:mu q=some pl) (hl:pl.loc=some (b,base)) (hk: ∀sz:Nat×Option TypeId,s= .buf sz.1 sz.2->mu k=some pA):RP w ok mu (B9 q k x s) u:=by
 cases s with
 | imm=>exact .imm hv
 | buf sz ty=>
   cases ty with
   | none=>
     obtain ⟨_,harr,A,cap,rfl,hh,hc⟩:=hv
     obtain ⟨_,es,rfl,hlen,_⟩:=harr
     have:bQ (.lst es)=pA.len:=hlen
     simp only [B9,this]
     exact .buf k pA.len A cap pA (hk (sz,none) rfl) rfl hh hc
   | some T=>
     obtain ⟨_,harr,hh⟩:=hv
     obtain ⟨_,es,rfl,hlen,_⟩:=harr
     have:bQ (.lst es)=pA.len:=hlen
     simp only [B9,this]
     exact .tbuf T k pA.len pA _ (hk (sz,some T) rfl) rfl hh
 | sn T n=>exact .sn T n q pl _ hq hv
theorem CellVal.more {ok':Nat->Prop} (hmore: ∀b,ok b->ok' b) {pl pA:Pl} {x:IV} {u:Value} {s:Sc} (hv:CellVal w ok pl pA x u s):CellVal w ok' pl pA x u s:=by
 cases s with
 | imm=>exact RV.more hmore hv
 | buf sz ty=>
   cases ty with
   | none=>exact ⟨hv.1,hv.2.1.more hmore,hv.2.2⟩
   | some T=>exact ⟨hv.1,hv.2.1.more hmore,hv.2.2⟩
 | sn T n=>exact hv
theorem ObjVal.more {ok':Nat->Prop} {shp:List Sc} {vs:List IV} {v:Value} {pl:Pl} {pA:Nat->Pl} (tv:ObjVal w ok shp vs v pl pA) (hmore: ∀b,ok b->ok' b) (hno: ∀b,ObjLoc shp pl pA b-> ¬ok' b):ObjVal w ok' shp vs v pl pA:=by
 obtain ⟨⟨b,base,c,T,e1,e2,e3,e4,e5⟩,h2,h3,_⟩:=tv
 refine ⟨⟨b,base,c,T,e1,e2,e3,e4,fun j s hj=> ?_⟩,h2,h3,hno⟩
 obtain ⟨u,g1,g2⟩:=e5 j s hj
 exact ⟨u,g1,g2.more hmore⟩
theorem ObjVal.at {shp:List Sc} {vs:List IV} {v:Value} {pl pl':Pl} {pA:Nat->Pl} (tv:ObjVal w ok shp vs v pl pA) (he:pl'.loc=pl.loc):ObjVal w ok shp vs v pl' pA:=by
 obtain ⟨⟨b,base,c,T,e1,e2,e3,e4,e5⟩,h2,h3,h4⟩:=tv
 refine ⟨⟨b,base,c,T,he.trans e1,e2,e3,e4,fun j s hj=> ?_⟩,by rw [he];exact h2,h3,fun b hb=>h4 b ?_⟩
 ·obtain ⟨u,g1,g2⟩:=e5 j s hj
  refine ⟨u,g1,?_⟩
  cases s with
  | imm=>exact g2
  | buf sz ty=>cases ty<;>exact g2
  | sn T n=>
    obtain ⟨b',k1,k2⟩:=g2
    exact ⟨b',he.trans k1,k2⟩
 ·rcases hb with ⟨base,hb⟩ | hb
  ·exact .inl ⟨base,he▸hb⟩
  ·exact .inr hb
theorem ObjVal.congr {shp:List Sc} {vs r:List IV} {v:Value} {pl:Pl} {pA:Nat->Pl} (tv:ObjVal w ok shp vs v pl pA) (he: ∀j,j < shp.length->nth r j=nth vs j):ObjVal w ok shp r v pl pA:=by
 obtain ⟨⟨b,base,c,T,e1,e2,e3,e4,e5⟩,h2,h3,h4⟩:=tv
 refine ⟨⟨b,base,c,T,e1,e2,e3,e4,fun j s hj=> ?_⟩,h2,h3,h4⟩
 rw [he j (List.getElem?_eq_some_iff.1 hj).1]
 exact e5 j s hj
def Td (shp:List Sc) (pA:Nat->Pl) (j:Nat):Option Pl:=match shp[j]? with | some (.buf _ _)=>some (pA j) | _=>none
theorem dX {shp:List Sc} {pA:Nat->Pl} {j:Nat} {p:Pl} (hm:Td shp pA j=some p):p=pA j/\ ∃sz:Nat×Option TypeId,shp[j]? =some (.buf sz.1 sz.2):=by
 unfold Td at hm
 split at hm
 ·rename_i sz ty hs
  cases hm;exact ⟨rfl,(sz,ty),hs⟩
 ·cases hm
theorem ObjVal.boxOk {shp:List Sc} {vs r:List IV} {v:Value} {pl:Pl} {pA:Nat->Pl} (tv:ObjVal w ok shp vs v pl pA) {i0:Nat} (hr: ∀j,j < shp.length->nth r (i0+j)=nth vs j) {q k:Nat} (hq:mu q=some pl) (hk: ∀(j:Nat) (sz:Nat×Option TypeId),shp[j]? =some (.buf sz.1 sz.2)->mu (k+j)=some (pA j)) {m:Md}:
  ObOk w ok mu pl (.box m (bI q r shp k i0)):=by
 obtain ⟨b,base,c,T,e1,e2,e3,e4,e5⟩:=tv.box
 refine ⟨b,base,c,T,e1,e3,by rw [ub];exact e4,fun j p hj=> ?_⟩
 rw [AD] at hj
 obtain ⟨s,hs,rfl⟩:=Option.map_eq_some_iff.1 hj
 obtain ⟨u,g1,g2⟩:=e5 j s hs
 rw [hr j (List.getElem?_eq_some_iff.1 hs).1]
 exact ⟨u,g1,g2.rp hq e1 fun sz e=>hk j sz (by rw [hs,e])⟩
theorem ObjVal.arrsOk {shp:List Sc} {vs r:List IV} {v:Value} {pl:Pl} {pA:Nat->Pl} (tv:ObjVal w ok shp vs v pl pA) {i0:Nat} (hr: ∀j,j < shp.length->nth r (i0+j)=nth vs j) {j:Nat} {p:Pl} (hm:Td shp pA j=some p):
  ObOk w ok mu p ((bp r shp i0).getD j .dead):=by
 obtain ⟨rfl,sz,hs⟩:=dX hm
 obtain ⟨b,base,c,T,e1,e2,e3,e4,e5⟩:=tv.box
 obtain ⟨u,g1,g2⟩:=e5 j _ hs
 rw [List.getD_eq_getElem?_getD,Dy,hs,hr j (List.getElem?_eq_some_iff.1 hs).1]
 obtain ⟨sz,ty⟩:=sz
 cases ty<;>exact .inl ⟨g2.1,g2.2.1⟩
def kV (n m:Nat) (muN:Nat->Option Pl) (mu:Mu):Mu:=fun q=>if n<=q/\q < n+m then muN (q - n) else mu q
theorem Inv.addMany (i:Inv w0 ok0 w ok mu h) (hfresh: ∀q,h.length<=q->mu q=none) {news:List Ob} {muN:Nat->Option Pl}
  (hob: ∀j p,j < news.length->muN j=some p->ObOk w ok (kV h.length news.length muN mu) p (news.getD j .dead))
  (hloc: ∀j p b base,j < news.length->muN j=some p->p.loc=some (b,base)->Own0 w0 ok0 b/\b < w.heap.size/\ ¬ok b/\ ∀o p' base',mu o=some p'->p'.loc=some (b,base')->(getOb h o).live=false)
  (htwo: ∀j j' p p' b base base',j < news.length->j' < news.length->muN j=some p->muN j'=some p'->p.loc=some (b,base)->p'.loc=some (b,base')->j=j'):
  Inv w0 ok0 w ok (kV h.length news.length muN mu) (h++news)/\(∀q,(h++news).length<=q->kV h.length news.length muN mu q=none)/\Later w ok mu w ok (kV h.length news.length muN mu):=by
 have hlt: ∀{o p},mu o=some p->o < h.length:=fun {o p} ho=>by
  rcases Nat.lt_or_ge o h.length with h1 | h1
  ·exact h1
  ·rw [hfresh o h1] at ho;cases ho
 have hold: ∀{o},o < h.length->kV h.length news.length muN mu o=mu o:=fun {o} ho=>by
  unfold kV
  rw [if_neg (by omega)]
 have hl:Later w ok mu w ok (kV h.length news.length muN mu):=⟨.refl _ _,fun o p ho=>by rw [hold (hlt ho)];exact ho,.refl _⟩
 have hget: ∀{o},o < h.length->getOb (h++news) o=getOb h o:=fun {o} ho=>by rw [an,if_pos ho]
 have hcase: ∀o p,kV h.length news.length muN mu o=some p->(∃j,o=h.length+j/\j < news.length/\muN j=some p)\/(o < h.length/\mu o=some p):=fun o p ho=>by
  unfold kV at ho
  split at ho
  ·rename_i e
   exact .inl ⟨o - h.length,by omega,by omega,ho⟩
  ·exact .inr ⟨hlt ho,ho⟩
 have hnew: ∀{j},getOb (h++news) (h.length+j)=news.getD j .dead:=fun {j}=>by
  rw [an,if_neg (by omega),Nat.add_sub_cancel_left];rfl
 refine ⟨⟨i.below,i.okw,i.okb,fun o p ho=> ?_,fun o p b base ho hb=> ?_,fun o o' p p2 b base base' ho ho' hb hb' hlv hlv'=> ?_⟩,fun q hq=> ?_,hl⟩
 ·rcases hcase o p ho with ⟨j,rfl,hj,h1⟩ | ⟨h0,h1⟩
  ·rw [hnew];exact hob j p hj h1
  ·rw [hget h0];exact (i.ob o p h1).later hl fun _ _ _=>rfl
 ·rcases hcase o p ho with ⟨j,rfl,hj,h1⟩ | ⟨h0,h1⟩
  ·obtain ⟨h2,h3,h4,_⟩:=hloc j p b base hj h1 hb
   exact ⟨h2,h3,fun _ _=>h4⟩
  ·rw [hget h0];exact i.own o p b base h1 hb
 ·rcases hcase o p ho with ⟨j,rfl,hj,h1⟩ | ⟨h0,h1⟩<;>rcases hcase o' p2 ho' with ⟨j',rfl,hj',h1'⟩ | ⟨h0',h1'⟩
  ·rw [htwo j j' p p2 b base base' hj hj' h1 h1' hb hb']
  ·have:=(hloc j p b base hj h1 hb).2.2.2 o' p2 base' h1' hb'
   rw [hget h0',this] at hlv';cases hlv'
  ·have:=(hloc j' p2 b base' hj' h1' hb').2.2.2 o p base h1 hb
   rw [hget h0,this] at hlv;cases hlv
  ·rw [hget h0] at hlv
   rw [hget h0'] at hlv'
   exact i.inj o o' p p2 b base base' h1 h1' hb hb' hlv hlv'
 ·simp only [List.length_append] at hq
  unfold kV
  rw [if_neg (by omega)]
  exact hfresh q (by omega)
theorem Inv.addArrs (i:Inv w0 ok0 w ok mu h) (hfresh: ∀q,h.length<=q->mu q=none) {shp:List Sc} {vs r:List IV} {v:Value} {pl:Pl} {pA:Nat->Pl} (tv:ObjVal w ok shp vs v pl pA) {i0:Nat} (hr: ∀j,j < shp.length->nth r (i0+j)=nth vs j)
  (hown: ∀b,ObjLoc shp pl pA b->Own0 w0 ok0 b/\b < w.heap.size/\ ∀o p' base',mu o=some p'->p'.loc=some (b,base')->(getOb h o).live=false) {q:Nat} (hq:mu q=some pl):
  ∃mu',Inv w0 ok0 w ok mu' (h++bp r shp i0)/\(∀q,(h++bp r shp i0).length<=q->mu' q=none)/\Later w ok mu w ok mu'/\ObOk w ok mu' pl (.box .rw (bI q r shp h.length i0))/\
   ∀o p,mu' o=some p->(o < h.length/\mu o=some p)\/(h.length<=o/\ ∀b base,p.loc=some (b,base)->ObjBuf shp pA b):=by
 have hal:=iD r shp i0
 have hN: ∀j p,Td shp pA j=some p->j < shp.length:=fun j p hm=>by
  obtain ⟨_,sz,hs⟩:=dX hm
  exact (List.getElem?_eq_some_iff.1 hs).1
 have hplN: ∀j p b base,Td shp pA j=some p->p.loc=some (b,base)->ObjBuf shp pA b:=fun j p b base hm hb=>by
  obtain ⟨rfl,sz,hs⟩:=dX hm
  exact ⟨j,sz,base,hs,hb⟩
 have hadd:=i.addMany hfresh (news:=bp r shp i0) (muN:=Td shp pA) (fun j p hj hm=> ?_) (fun j p b base hj hm hb=> ?_) fun j j' p p' b base base' hj hj' hm hm' hb hb'=> ?_
 ·obtain ⟨h1,h2,h3⟩:=hadd
  refine ⟨_,h1,h2,h3,tv.boxOk hr (h3.mu q pl hq) (fun k sz hs=> ?_),fun o p ho=> ?_⟩
  ·have hk:=(List.getElem?_eq_some_iff.1 hs).1
   unfold kV
   rw [if_pos (by omega),Nat.add_sub_cancel_left]
   unfold Td
   rw [hs]
  ·unfold kV at ho
   split at ho
   ·rename_i e
    exact .inr ⟨e.1,fun b base hb=>hplN _ p b base ho hb⟩
   ·rename_i e
    refine .inl ⟨?_,ho⟩
    rcases Nat.lt_or_ge o h.length with g | g
    ·exact g
    ·rw [hfresh o g] at ho;cases ho
 ·exact tv.arrsOk hr hm
 ·obtain ⟨g1,g2,g3⟩:=hown b (.inr (hplN j p b base hm hb))
  exact ⟨g1,g2,tv.free b (.inr (hplN j p b base hm hb)),g3⟩
 ·obtain ⟨rfl,sz,hs⟩:=dX hm
  obtain ⟨rfl,sz',hs'⟩:=dX hm'
  exact tv.two j j' sz sz' b base base' hs hs' hb hb'
theorem Inv.reviveK (i:Inv w0 ok0 w ok mu h) {o:Nat} {pl:Pl} {ob:Ob} (hm:mu o=some pl) (hlt:o < h.length) (hob:ObOk w ok mu pl ob) (hno: ∀b base,pl.loc=some (b,base)-> ¬ok b)
  (hfree: ∀b base o2 pl2 base2,pl.loc=some (b,base)->mu o2=some pl2->pl2.loc=some (b,base2)->o2≠o->(getOb h o2).live=false):Inv w0 ok0 w ok mu (h.set o ob):=by
 have hg: ∀q,getOb (h.set o ob) q=if q=o then ob else getOb h q:=fun q=>by
  rw [aR]
  by_cases e:o=q
  ·subst e;rw [if_pos ⟨rfl,hlt⟩,if_pos rfl]
  ·rw [if_neg (fun h=>e h.1),if_neg (fun h=>e h.symm)]
 refine ⟨i.below,i.okw,i.okb,fun q p hq=> ?_,fun q p b base hq hb=> ?_,fun q q' p p' b base base' hq hq' hb hb' h1 h2=> ?_⟩
 ·rw [hg]
  split
  ·rename_i e;subst e;rw [hm] at hq;cases hq;exact hob
  ·exact i.ob q p hq
 ·obtain ⟨g1,g2,g3⟩:=i.own q p b base hq hb
  rw [hg]
  split
  ·rename_i e;subst e;rw [hm] at hq;cases hq
   exact ⟨g1,g2,fun _ _=>hno b base hb⟩
  ·exact ⟨g1,g2,g3⟩
 ·rw [hg] at h1 h2
  by_cases e:q=o
  ·subst e
   rw [hm] at hq;cases hq
   by_cases e':q'=q
   ·exact e'.symm
   ·rw [if_neg e',hfree b base q' p' base' hb hq' hb' e'] at h2;cases h2
  ·rw [if_neg e] at h1
   by_cases e':q'=o
   ·subst e'
    rw [hm] at hq';cases hq'
    rw [hfree b base' q p base hb' hq hb e] at h1;cases h1
   ·rw [if_neg e'] at h2
    exact i.inj q q' p p' b base base' hq hq' hb hb' h1 h2
theorem Inv.addObj (i:Inv w0 ok0 w ok mu h) (hfresh: ∀q,h.length<=q->mu q=none) {shp:List Sc} {vs r:List IV} {v:Value} {pl:Pl} {pA:Nat->Pl} (tv:ObjVal w ok shp vs v pl pA) {i0:Nat} (hr: ∀j,j < shp.length->nth r (i0+j)=nth vs j)
  (hown: ∀b,ObjLoc shp pl pA b->Own0 w0 ok0 b/\b < w.heap.size/\ ∀o p' base',mu o=some p'->p'.loc=some (b,base')->(getOb h o).live=false):
  ∃mu',Inv w0 ok0 w ok mu' (h++(bp r shp i0++[.box .rw (bI (h.length+shp.length) r shp h.length i0)]))/\(∀q,(h++(bp r shp i0++[Ob.box .rw (bI (h.length+shp.length) r shp h.length i0)])).length<=q->mu' q=none)/\Later w ok mu w ok mu'/\mu' (h.length+shp.length)=some pl/\
   ∀o p,mu' o=some p->(o < h.length/\mu o=some p)\/(h.length<=o/\ ∀b base,p.loc=some (b,base)->ObjLoc shp pl pA b):=by
 have hal:=iD r shp i0
 have hnl:(bp r shp i0++[Ob.box .rw (bI (h.length+shp.length) r shp h.length i0)]).length=shp.length+1:=by simp [hal]
 have hN: ∀j p,(if j=shp.length then some pl else Td shp pA j)=some p->(j=shp.length/\p=pl)\/(j < shp.length/\Td shp pA j=some p):=fun j p hm=>by
  split at hm
  ·cases hm;exact .inl ⟨‹_›,rfl⟩
  ·obtain ⟨_,sz,hs⟩:=dX hm
   exact .inr ⟨(List.getElem?_eq_some_iff.1 hs).1,hm⟩
 have hplN: ∀j p b base,(if j=shp.length then some pl else Td shp pA j)=some p->p.loc=some (b,base)->ObjLoc shp pl pA b:=fun j p b base hm hb=>by
  rcases hN j p hm with ⟨_,rfl⟩ | ⟨_,hm⟩
  ·exact .inl ⟨base,hb⟩
  ·obtain ⟨rfl,sz,hs⟩:=dX hm
   exact .inr ⟨j,sz,base,hs,hb⟩
 have hadd:=i.addMany hfresh (news:=bp r shp i0++[Ob.box .rw (bI (h.length+shp.length) r shp h.length i0)]) (muN:=fun j=>if j=shp.length then some pl else Td shp pA j) (fun j p hj hm=> ?_) (fun j p b base hj hm hb=> ?_) fun j j' p p' b base base' hj hj' hm hm' hb hb'=> ?_
 ·obtain ⟨h1,h2,h3⟩:=hadd
  refine ⟨_,h1,h2,h3,?_,fun o p ho=> ?_⟩
  ·unfold kV
   rw [hnl,if_pos (by omega),Nat.add_sub_cancel_left]
   exact if_pos rfl
  ·unfold kV at ho
   split at ho
   ·rename_i e
    exact .inr ⟨e.1,fun b base hb=>hplN _ p b base ho hb⟩
   ·rename_i e
    refine .inl ⟨?_,ho⟩
    rcases Nat.lt_or_ge o h.length with g | g
    ·exact g
    ·rw [hfresh o g] at ho;cases ho
 ·rcases hN j p hm with ⟨rfl,rfl⟩ | ⟨hlt,hm⟩
  ·rw [List.getD_eq_getElem?_getD,List.getElem?_append_right (by omega),hal,Nat.sub_self]
   refine tv.boxOk hr ?_ fun k sz hs=> ?_
   ·unfold kV
    rw [hnl,if_pos (by omega),Nat.add_sub_cancel_left]
    exact if_pos rfl
   ·have hk:=(List.getElem?_eq_some_iff.1 hs).1
    unfold kV
    rw [hnl,if_pos (by omega),Nat.add_sub_cancel_left]
    refine (if_neg (by omega)).trans ?_
    unfold Td
    rw [hs]
  ·rw [List.getD_eq_getElem?_getD,List.getElem?_append_left (by omega),<-List.getD_eq_getElem?_getD]
   exact tv.arrsOk hr hm
 ·obtain ⟨g1,g2,g3⟩:=hown b (hplN j p b base hm hb)
  exact ⟨g1,g2,tv.free b (hplN j p b base hm hb),g3⟩
 ·rcases hN j p hm with ⟨e,rfl⟩ | ⟨hlt,hm2⟩<;>rcases hN j' p' hm' with ⟨e',rfl⟩ | ⟨hlt',hm2'⟩
  ·rw [e,e']
  ·obtain ⟨rfl,sz,hs⟩:=dX hm2'
   exact absurd ⟨j',sz,base',hs,hb'⟩ (tv.apart b base hb)
  ·obtain ⟨rfl,sz,hs⟩:=dX hm2
   exact absurd ⟨j,sz,base,hs,hb⟩ (tv.apart b base' hb')
  ·obtain ⟨rfl,sz,hs⟩:=dX hm2
   obtain ⟨rfl,sz',hs'⟩:=dX hm2'
   exact tv.two j j' sz sz' b base base' hs hs' hb hb'
theorem U7 (i:Inv w0 ok0 w ok mu h) {q:Nat} {pl:Pl} {b base:Nat} (hm:mu q=some pl) (hl:pl.loc=some (b,base)) {s:Sc} {p:PV} {x:IV} {os:List Nat} (ht:DS h q s p=some (x,os)) {u:Value} (r:RP w ok mu p u):
  ∃pA,CellVal w ok pl pA x u s/\(∀k∈os,∃sz y,getOb h k= .arr .rw sz y)/\(∀sz:Nat×Option TypeId,s= .buf sz.1 sz.2-> ∀b base,pA.loc=some (b,base)-> ∃k∈os,∃plq base',mu k=some plq/\plq.loc=some (b,base')):=by
 cases s with
 | imm=>
   cases p with
   | imm y=>
     cases ht
     cases r with
     | imm r=>exact ⟨⟨none,0,0⟩,r,by simp,fun sz e=>by cases e⟩
   | nils=>
     cases ht
     cases r with
     | nils a=>exact ⟨⟨none,0,0⟩,RV.lst [] a 0 0 (fun _ _=>undef) (Nat.le_refl _) (by simp) (by simp) (by simp),by simp,fun sz e=>by cases e⟩
   | _=>cases ht
 | buf sz ty=>
   cases ty with
   | none=>
     have ht':vZ h sz p=some (x,os):=by
      cases p<;>exact ht
     obtain ⟨plA,k1,k2,k3,k4,k5⟩:=H9 i ht' r
     refine ⟨plA,⟨k1,k2,?_⟩,fun k hk=> ?_,fun sz' e b base hb=> ?_⟩
     ·have hrp:=k3 (fun _=>some plA) 0 rfl
      cases hrp with
      | buf _ _ A cap pl' hm' hn' hh' hc'=>
        cases hm'
        obtain ⟨_,es,rfl,hlen,_⟩:=k2
        have:bQ (.lst es)=plA.len:=hlen
        rw [this] at hh' ⊢
        exact ⟨A,cap,rfl,hh',hc'⟩
     ·obtain ⟨⟨y,hy⟩,_⟩:=k4 k hk
      exact ⟨sz,y,hy⟩
     ·obtain ⟨k,hk⟩:=List.exists_mem_of_ne_nil _ (k5 b base hb)
      obtain ⟨_,plq,g1,g2⟩:=k4 k hk
      exact ⟨k,hk,plq,base,g1,g2.trans hb⟩
   | some T=>
     have ht':Oc h sz T p=some (x,os):=by
      cases p<;>exact ht
     unfold Oc at ht'
     split at ht'
     ·split at ht'
      ·rename_i hpos
       cases ht'
       cases r with
       | tnil=>exact ⟨⟨none,0,sz⟩,⟨hpos,⟨rfl,[],rfl,rfl,by simp,fun _=>rfl,fun b base hb=>by cases hb⟩,.inl ⟨rfl,rfl,rfl⟩⟩,by simp,fun _ _ b base hb=>by cases hb⟩
      ·cases ht'
     ·rename_i T' o' n'
      split at ht'
      ·rename_i sz' y hg
       split at ht'
       ·rename_i hc
        obtain ⟨rfl,rfl⟩:=hc
        simp only [Option.some.injEq,Prod.mk.injEq] at ht'
        obtain ⟨rfl,rfl⟩:=ht'
        cases r with
        | tbuf _ _ _ pl' _ hm' hn' hv'=>
          have hob:=i.ob o' pl' hm'
          rw [hg] at hob
          have harr:0 < sz'/\uH w ok pl' sz' y:=by
           rcases hob with hob | ⟨h1,es,b',h2,h3,me,ck,h4,_⟩
           ·exact hob
           ·rcases hv' with ⟨_,_,h0⟩ | ⟨b2,cap,h5,_,_,_,c,z,h6,_⟩
            ·rw [h3] at h0;cases h0
            ·rw [h3] at h5;cases h5;rw [h4] at h6;cases h6
          refine ⟨pl',⟨harr.1,harr.2,by rw [<-hn'];exact hv'⟩,fun k hk=> ?_,fun sz2 e b base hb=> ?_⟩
          ·rw [List.mem_singleton.1 hk];exact ⟨_,_,hg⟩
          ·exact ⟨o',by simp,pl',base,hm',hb⟩
       ·cases ht'
      ·cases ht'
     ·cases ht'
 | sn T n=>
   cases p with
   | sn T' n' q'=>
     have ht':(if q'=q/\T'=T/\n'=n then some (IV.nilp,([]:List Nat)) else none)=some (x,os):=ht
     split at ht'
     ·rename_i e
      obtain ⟨rfl,rfl,rfl⟩:=e
      cases ht'
      cases r with
      | sn _ _ _ pl' _ hm' hv'=>
        rw [hm] at hm';cases hm'
        exact ⟨⟨none,0,0⟩,hv',by simp,fun sz e=>by cases e⟩
     ·cases ht'
   | _=>cases ht
theorem CQ {q:Nat}: ∀{shp:List Sc} {cs:List PV} {vs:List IV} {os:List Nat},y9 h q shp cs=some (vs,os)->vs.length=shp.length/\cs.length=shp.length/\
  (∀(j:Nat) (s:Sc),shp[j]? =some s-> ∃(p:PV) (oj:List Nat),cs[j]? =some p/\DS h q s p=some (nth vs j,oj)/\ ∀k∈oj,k∈os)/\
  (∀k∈os,∃(j:Nat) (s:Sc) (p:PV) (x:IV) (oj:List Nat),shp[j]? =some s/\cs[j]? =some p/\DS h q s p=some (x,oj)/\k∈oj)/\
  (cC os=true-> ∀(j j':Nat) (s s':Sc) (p p':PV) (x x':IV) (oj oj':List Nat) (k:Nat),shp[j]? =some s->cs[j]? =some p->DS h q s p=some (x,oj)->shp[j']? =some s'->cs[j']? =some p'->DS h q s' p'=some (x',oj')->k∈oj->k∈oj'->j=j')
 | [],[],vs,os,ht=>by
   simp only [y9,Option.some.injEq,Prod.mk.injEq] at ht
   obtain ⟨rfl,rfl⟩:=ht
   exact ⟨rfl,rfl,fun j s hj=>by simp at hj,by simp,fun _ j j' s s' p p' x x' oj oj' k hj=>by simp at hj⟩
 | [],_::_,vs,os,ht=>by simp [y9] at ht
 | _::_,[],vs,os,ht=>by simp [y9] at ht
 | s0::ss,p0::ps,vs,os,ht=>by
   simp only [y9] at ht
   split at ht
   ·rename_i x0 xs hx0 hxs
    obtain ⟨x0,o0⟩:=x0
    obtain ⟨xs,os'⟩:=xs
    simp only [Option.some.injEq,Prod.mk.injEq] at ht
    obtain ⟨rfl,rfl⟩:=ht
    obtain ⟨h1,h2,h3,h4,h5⟩:=CQ hxs
    refine ⟨by simp [h1],by simp [h2],fun j s hj=> ?_,fun k hk=> ?_,fun hnd j j' s s' p p' x x' oj oj' k g1 g2 g3 g4 g5 g6 g7 g8=> ?_⟩
    ·cases j with
     | zero=>
       simp at hj;subst hj
       exact ⟨p0,o0,rfl,hx0,fun k hk=>List.mem_append_left _ hk⟩
     | succ j=>
       obtain ⟨p,oj,g1,g2,g3⟩:=h3 j s (by simpa using hj)
       exact ⟨p,oj,by simpa using g1,g2,fun k hk=>List.mem_append_right _ (g3 k hk)⟩
    ·rcases List.mem_append.1 hk with hk | hk
     ·exact ⟨0,s0,p0,x0,o0,rfl,rfl,hx0,hk⟩
     ·obtain ⟨j,s,p,x,oj,g1,g2,g3,g4⟩:=h4 k hk
      exact ⟨j+1,s,p,x,oj,by simpa using g1,by simpa using g2,g3,g4⟩
    ·obtain ⟨n1,n2⟩:=jM hnd
     cases j with
     | zero=>
       cases j' with
       | zero=>rfl
       | succ j'=>
         exfalso
         simp at g1 g2;subst g1;subst g2
         rw [hx0] at g3;cases g3
         obtain ⟨p2,oj2,k1,k2,k3⟩:=h3 j' s' (by simpa using g4)
         have:p2=p':=by have:=g5;simp at this;rw [k1] at this;cases this;rfl
         subst this
         rw [k2] at g6;cases g6
         exact n2 k g7 (k3 k g8)
     | succ j=>
       cases j' with
       | zero=>
         exfalso
         simp at g4 g5;subst g4;subst g5
         rw [hx0] at g6;cases g6
         obtain ⟨p2,oj2,k1,k2,k3⟩:=h3 j s (by simpa using g1)
         have:p2=p:=by have:=g2;simp at this;rw [k1] at this;cases this;rfl
         subst this
         rw [k2] at g3;cases g3
         exact n2 k g8 (k3 k g7)
       | succ j'=>
         rw [h5 n1 j j' s s' p p' x x' oj oj' k (by simpa using g1) (by simpa using g2) g3 (by simpa using g4) (by simpa using g5) g6 g7 g8]
   ·cases ht
theorem rZ (i:Inv w0 ok0 w ok mu h) {shp:List Sc} {q j:Nat} {vs:List IV} {os:List Nat} (ht:z8 h shp (.ptr q j)=some (vs,os)) {v:Value} (r:RP w ok mu (.ptr q j) v):
  ∃pl pA,mu q=some pl/\ObjVal w ok shp vs v pl pA/\vs.length=shp.length/\(∀k∈os,isRw (getOb h k)=true)/\q∈os/\(∀b,ObjBuf shp pA b-> ∃k∈os,k≠q/\ ∃plq base,mu k=some plq/\plq.loc=some (b,base)):=by
 unfold z8 at ht
 split at ht
 ·rename_i q' heq
  cases heq
  split at ht
  ·rename_i cs hg
   split at ht
   ·rename_i p hp
    obtain ⟨vs',os'⟩:=p
    split at ht
    ·rename_i hnd
     cases ht
     cases r with
     | ptr _ _ pl b base hm hl=>
       have hob:=i.ob q pl hm
       rw [hg] at hob
       obtain ⟨b',base',c,T,e1,e2,e3,e4⟩:=hob
       rw [hl] at e1;cases e1
       obtain ⟨h1,h2,h3,h4,h5⟩:=CQ hp
       have hnd':q∉os'/\cC os'=true:=by
        simpa only [cC,Bool.and_eq_true,Bool.not_eq_true',List.contains_eq_mem,decide_eq_false_iff_not] using hnd
       have hex: ∀j,∃pA,∀s,shp[j]? =some s-> ∃u p oj,c[base+j]? =some u/\cs[j]? =some p/\DS h q s p=some (nth vs' j,oj)/\CellVal w ok pl pA (nth vs' j) u s/\(∀k∈oj,∃sz y,getOb h k= .arr .rw sz y)/\(∀sz:Nat×Option TypeId,s= .buf sz.1 sz.2-> ∀b base,pA.loc=some (b,base)-> ∃k∈oj,∃plq base',mu k=some plq/\plq.loc=some (b,base')):=fun j=>by
        cases hs:shp[j]? with
        | none=>exact ⟨⟨none,0,0⟩,fun s hh=>by cases hh⟩
        | some s=>
          obtain ⟨p,oj,g1,g2,g3⟩:=h3 j s hs
          obtain ⟨u,g4,g5⟩:=e4 j p g1
          obtain ⟨pA,g6,g7,g8⟩:=U7 i hm hl g2 g5
          exact ⟨pA,fun s' hh=>by cases hh;exact ⟨u,p,oj,g4,g1,g2,g6,g7,g8⟩⟩
       obtain ⟨pA,hpA⟩:=Classical.axiomOfChoice hex
       have hlvq:(getOb h q).live=true:=by rw [hg];rfl
       have hnfq:(getOb h q).fz=false:=by rw [hg];rfl
       have hbuf: ∀b,ObjBuf shp pA b-> ∃k∈os',k≠q/\ ∃plq base,mu k=some plq/\plq.loc=some (b,base):=fun b1 hb=>by
        obtain ⟨j,sz,base1,hs,hb⟩:=hb
        obtain ⟨u,p,oj,g1,g2,g3,g4,g5,g6⟩:=hpA j _ hs
        obtain ⟨k,hk,plq,bs,k1,k2⟩:=g6 sz rfl b1 base1 hb
        obtain ⟨p2,oj2,m1,m2,m3⟩:=h3 j _ hs
        rw [g2] at m1;cases m1
        rw [g3] at m2;cases m2
        exact ⟨k,m3 k hk,fun e=>hnd'.1 (e▸m3 k hk),plq,bs,k1,k2⟩
       have harr: ∀k∈os',∃sz y,getOb h k= .arr .rw sz y:=fun k hk=>by
        obtain ⟨j,s,p,x,oj,g1,g2,g3,g4⟩:=h4 k hk
        obtain ⟨u,p2,oj2,k1,k2,k3,k4,k5,k6⟩:=hpA j s g1
        rw [g2] at k2;cases k2
        rw [g3] at k3;cases k3
        exact k5 k g4
       have hlive: ∀k∈os',(getOb h k).live=true/\(getOb h k).fz=false:=fun k hk=>by
        obtain ⟨sz,y,hy⟩:=harr k hk
        rw [hy];exact ⟨rfl,rfl⟩
       refine ⟨pl,pA,hm,⟨⟨b,base,c,T,hl,rfl,e2,by rw [<-h2];exact e3,fun j s hs=> ?_⟩,fun b1 base1 hb1 hb=> ?_,fun j j' sz sz' b1 base1 base2 hs hs' hb hb'=> ?_,fun b1 hb=> ?_⟩,h1,fun k hk=> ?_,List.mem_cons_self,fun b1 hb=> ?_⟩
       ·obtain ⟨u,p,oj,g1,g2,g3,g4,_⟩:=hpA j s hs
        exact ⟨u,g1,g4⟩
       ·obtain ⟨k,hk,hkq,plq,bs,g1,g2⟩:=hbuf b1 hb
        exact hkq (i.inj k q plq pl b1 bs base1 g1 hm g2 hb1 (hlive k hk).1 hlvq)
       ·obtain ⟨u,p,oj,g1,g2,g3,g4,g5,g6⟩:=hpA j _ hs
        obtain ⟨u',p',oj',g1',g2',g3',g4',g5',g6'⟩:=hpA j' _ hs'
        obtain ⟨k,hk,plq,bs,k1,k2⟩:=g6 sz rfl b1 base1 hb
        obtain ⟨k',hk',plq',bs',k1',k2'⟩:=g6' sz' rfl b1 base2 hb'
        obtain ⟨_,y,hy⟩:=g5 k hk
        obtain ⟨_,y',hy'⟩:=g5' k' hk'
        have:=i.inj k k' plq plq' b1 bs bs' k1 k1' k2 k2' (by rw [hy];rfl) (by rw [hy'];rfl)
        subst this
        exact h5 hnd'.2 j j' _ _ p p' _ _ oj oj' k hs g2 g3 hs' g2' g3' hk hk'
       ·rcases hb with ⟨base1,hb⟩ | hb
        ·exact (i.own q pl b1 base1 hm hb).2.2 hlvq hnfq
        ·obtain ⟨k,hk,_,plq,bs,g1,g2⟩:=hbuf b1 hb
         exact (i.own k plq b1 bs g1 g2).2.2 (hlive k hk).1 (hlive k hk).2
       ·rcases List.mem_cons.1 hk with rfl | hk
        ·rw [hg];rfl
        ·obtain ⟨sz,y,hy⟩:=harr k hk
         rw [hy];rfl
       ·obtain ⟨k,hk,h6⟩:=hbuf b1 hb
        exact ⟨k,List.mem_cons_of_mem _ hk,h6⟩
    ·cases ht
   ·cases ht
  ·cases ht
 ·cases ht
theorem Vb {sz:Nat} {p:PV} {x:IV} {os:List Nat} (hin:vZ h sz p=some (x,os)): ∀k∈os,isRw (getOb h k)=true:=fun k hk=>by
 unfold vZ at hin
 split at hin
 ·split at hin
  ·cases hin;cases hk
  ·cases hin
 ·split at hin
  ·rename_i hg2
   split at hin
   ·cases hin;rw [List.mem_singleton.1 hk,hg2];rfl
   ·cases hin
  ·cases hin
 ·split at hin
  ·rename_i hg2
   split at hin
   ·cases hin;rw [List.mem_singleton.1 hk,hg2];rfl
   ·cases hin
  ·cases hin
 ·cases hin
theorem xF {shp:List Sc} {p:PV} {vs:List IV} {os:List Nat} (ht:z8 h shp p=some (vs,os)):(∀k∈os,isRw (getOb h k)=true)/\ ∃q,p= .ptr q 0/\q∈os:=by
 unfold z8 at ht
 split at ht
 ·rename_i q
  split at ht
  ·rename_i cs hg
   split at ht
   ·rename_i pp hp
    obtain ⟨vs',os'⟩:=pp
    split at ht
    ·cases ht
     refine ⟨fun k hk=> ?_,q,rfl,List.mem_cons_self⟩
     rcases List.mem_cons.1 hk with rfl | hk
     ·rw [hg];rfl
     ·obtain ⟨_,_,_,h4,_⟩:=CQ hp
      obtain ⟨j,s,p,x,oj,g1,g2,g3,g4⟩:=h4 k hk
      unfold DS at g3
      split at g3
      ·cases g3;cases g4
      ·cases g3;cases g4
      ·exact Vb g3 k g4
      ·unfold Oc at g3
       split at g3
       ·split at g3
        ·cases g3;cases g4
        ·cases g3
       ·split at g3
        ·rename_i hg3
         split at g3
         ·cases g3;rw [List.mem_singleton.1 g4,hg3];rfl
         ·cases g3
        ·cases g3
       ·cases g3
      ·split at g3
       ·cases g3;cases g4
       ·cases g3
      ·cases g3
    ·cases ht
   ·cases ht
  ·cases ht
 ·cases ht
theorem Ll {ob:Ob} (h:isRw ob=true):ob.live=true/\ob.fz=false:=by
 cases ob with
 | dead=>cases h
 | box m cs=>cases m<;>first | exact ⟨rfl,rfl⟩ | cases h
 | arr m s x=>cases m<;>first | exact ⟨rfl,rfl⟩ | cases h
theorem abt {g:FuncId} {s:FSig} {x:Operand} {xs:List Operand} {shp:List Sc} (hrun:(execOp a.eval o).run P w= .ok (.enter g ((x::xs).map a.eval).toArray) w) (hmode:s.mode= .obj shp) (hs:ah P g s) (i:Inv w0 ok0 w ok mu h) (hfresh: ∀q,h.length<=q->mu q=none) (hf:Fr w ok mu fr a.tmps)
  {q j:Nat} (hx:ev fr x= .ptr q j) {p:List IV×List Nat} (ht:z8 h shp (.ptr q j)=some p) {as:List (List IV)} (has:iU h (xs.map (ev fr))=some as) (hfz:((xs.map (ev fr)).flatMap (fu h)).isEmpty=true) {r:List IV} (hr:s.fn (p.1::as)=some r):
  pX P w0 ok0 o a w ok mu (yG s.res (r.drop shp.length)) ((kill h p.2++bp r shp 0).set q (.box .rw (bI q r shp h.length 0))):=by
 obtain ⟨vs,os⟩:=p
 have hargs0:=gu i.q hf has
 rw [List.isEmpty_iff.1 hfz] at hargs0
 have hargs:bh w ok as (xs.map a.eval):=⟨hargs0.1,fun k c v h1 h2=>(hargs0.2 k c v h1 h2).more fun b hb=>by
  rcases hb with hb | ⟨q,hq,_⟩
  ·exact hb
  ·simp at hq⟩
 have rx:=hf.ev x
 rw [hx] at rx
 obtain ⟨pl,pA,hm,tv,hlen,hrw,hqos,hA⟩:=rZ i ht rx
 have hlive: ∀k∈os,(getOb h k).live=true/\(getOb h k).fz=false:=fun k hk=>Ll (hrw k hk)
 have hql:q < h.length:=iT (hlive q hqos).1
 have hsig:=hs
 unfold ah at hsig
 rw [hmode] at hsig
 have hrun':(execOp a.eval o).run P w= .ok (.enter g (a.eval x::xs.map a.eval).toArray) w:=by rw [hrun];simp
 have hobj: ∀b,ObjLoc shp pl pA b-> ∃k∈os,∃plq base,mu k=some plq/\plq.loc=some (b,base):=fun b hb=>by
  rcases hb with ⟨base,hb⟩ | hb
  ·exact ⟨q,hqos,pl,base,hm,hb⟩
  ·obtain ⟨k,hk,_,plq,base,g1,g2⟩:=hA b hb
   exact ⟨k,hk,plq,base,g1,g2⟩
 have hin: ∀b,ObjLoc shp pl pA b->b < w.heap.size:=fun b hb=>by
  obtain ⟨k,_,plq,base,g1,g2⟩:=hobj b hb
  exact (i.own k plq b base g1 g2).2.1
 refine fI.enter hrun' (Calls.mono (hsig.1 w ok as vs _ pl pA (xs.map a.eval) r i.okw hlen tv hin hargs hr) fun e w' he=> ?_)
 obtain ⟨v,ok',pA',rfl,h1,h2,h3,hsz,hsizes,hother,hok1,hok2,tv',hloc',hres⟩:=he
 obtain ⟨i2,l2⟩:=i.lentout (os:=os) (ok':=ok') hlive h1 h2 h3 hsz hsizes (fun b hb hne=>hother b hb fun hb'=>by
  obtain ⟨k,hk,plq,base,g1,g2⟩:=hobj b hb'
  exact hne k hk plq base g1 g2) hok1 fun b hb=>by
   rcases hok2 b hb with g | g | g
   ·exact .inl g
   ·exact .inr (.inl g)
   ·obtain ⟨k,hk,_,plq,base,g1,g2⟩:=hA b g
    exact .inr (.inr ⟨k,hk,plq,base,g1,g2⟩)
 have hkl:(kill h os).length=h.length:=dQ _ _
 have hfresh2: ∀k,(kill h os).length<=k->mu k=none:=fun k hk=>hfresh k (by rwa [hkl] at hk)
 have hdead: ∀k b base plk,mu k=some plk->plk.loc=some (b,base)->ObjLoc shp pl pA' b->(getOb (kill h os) k).live=false:=fun k b base plk hmk hlk hor=>by
  cases hc:(getOb (kill h os) k).live with
  | false=>rfl
  | true=>
    rw [j8] at hc
    split at hc
    ·cases hc
    ·rename_i hnk
     exfalso
     have key: ∀k',k'∈os-> ∀plq base2,mu k'=some plq->plq.loc=some (b,base2)->False:=fun k' hk' plq base2 g1 g2=>
      hnk (i.inj k k' plk plq b base base2 hmk g1 hlk g2 hc (hlive k' hk').1▸hk')
     rcases hor with ⟨base',g⟩ | g
     ·exact key q hqos pl base' hm g
     ·rcases hloc' b g with g | g
      ·have:=(i.own k plk b base hmk hlk).2.1;omega
      ·obtain ⟨k',hk',_,plq,base2,g1,g2⟩:=hA b g
       exact key k' hk' plq base2 g1 g2
 have hown: ∀b,ObjBuf shp pA' b->Own0 w0 ok0 b/\b < w'.heap.size:=fun b hb=>by
  rcases hloc' b hb with g | g
  ·exact ⟨.inl (Nat.le_trans i.below.size g.1),g.2⟩
  ·obtain ⟨k,_,_,plq,base2,g1,g2⟩:=hA b g
   exact ⟨(i.own k plq b base2 g1 g2).1,Nat.lt_of_lt_of_le (hin b (.inr g)) hsz⟩
 have hal:=iD r shp 0
 have hr0: ∀j,j < shp.length->nth r (0+j)=nth r j:=fun j _=>by rw [Nat.zero_add]
 obtain ⟨i3,f3,l3⟩:=i2.addMany hfresh2 (news:=bp r shp 0) (muN:=Td shp pA') (fun j p hj hmj=>tv'.arrsOk hr0 hmj) (fun j p b base hj hmj hb=>by
  obtain ⟨rfl,sz,hs⟩:=dX hmj
  have hbf:ObjBuf shp pA' b:=⟨j,sz,base,hs,hb⟩
  obtain ⟨g1,g2⟩:=hown b hbf
  exact ⟨g1,g2,tv'.free b (.inr hbf),fun o p' base' k1 k2=>hdead o b base' p' k1 k2 (.inr hbf)⟩) fun j j' p p' b base base' hj hj' hmj hmj' hb hb'=>by
   obtain ⟨rfl,sz,hs⟩:=dX hmj
   obtain ⟨rfl,sz',hs'⟩:=dX hmj'
   exact tv'.two j j' sz sz' b base base' hs hs' hb hb'
 have hq':kV (kill h os).length (bp r shp 0).length (Td shp pA') mu q=some pl:=by
  unfold kV
  rw [if_neg (by omega)];exact hm
 have i4:=i3.revive (o:=q) (pl:=pl) hq' (by simp [hkl];omega) (ob:= .box .rw (bI q r shp h.length 0)) (tv'.boxOk hr0 hq' fun j sz hs=>by
  have hj:=(List.getElem?_eq_some_iff.1 hs).1
  unfold kV
  rw [hkl,hal,if_pos (by omega),Nat.add_sub_cancel_left]
  unfold Td
  rw [hs]) (fun b base hb=>tv'.free b (.inl ⟨base,hb⟩)) fun b base k plk base' hkq hmk hb hlk=>by
  unfold kV at hmk
  split at hmk
  ·rename_i e
   obtain ⟨rfl,sz,hs⟩:=dX hmk
   exact absurd ⟨_,sz,base',hs,hlk⟩ (tv'.apart b base hb)
  ·rename_i e
   have hklt:k < (kill h os).length:=by
    rcases Nat.lt_or_ge k (kill h os).length with g | g
    ·exact g
    ·rw [hfresh2 k g] at hmk;cases hmk
   rw [an,if_pos hklt]
   exact hdead k b base' plk hmk hlk (.inl ⟨base,hb⟩)
 refine ⟨v,rfl,ok',_,l2.trans l3,i4,xA hres,fun k hk=>f3 k (by simpa using hk)⟩
theorem abk {g:FuncId} {s:FSig} {xs:List Operand} {shp:List Sc} (hrun:(execOp a.eval o).run P w= .ok (.enter g (xs.map a.eval).toArray) w) (hmode:s.mode= .mko shp) (hs:ah P g s) (i0:Inv w0 ok0 w ok mu h) (hfresh0: ∀q,h.length<=q->mu q=none) (hf:Fr w ok mu fr a.tmps)
  {as:List (List IV)} {h1:List Ob} (has:iU h (xs.map (ev fr))=some as) (hfz:qK h ((xs.map (ev fr)).flatMap (fu h))=some h1) {r:List IV} (hr:s.fn as=some r):
  pX P w0 ok0 o a w ok mu (.ptr (h1.length+shp.length) 0) (h1++(bp r shp 0++[.box .rw (bI (h1.length+shp.length) r shp h1.length 0)])):=by
 have hargs:=gu i0.q hf has
 have i:=i0.freeze hfresh0 hfz
 have hl1:h1.length=h.length:=(dx hfz).len
 have hfresh: ∀q,h1.length<=q->mu q=none:=fun q hq=>hfresh0 q (by omega)
 have l0:Later w ok mu w (fX ok mu ((xs.map (ev fr)).flatMap (fu h))) mu:=⟨⟨fun _ _=>rfl,fun _ h=> .inl h⟩,fun _ _ h=>h,.refl _⟩
 generalize fX ok mu ((xs.map (ev fr)).flatMap (fu h))=ok1 at*
 have hsig:=hs
 unfold ah at hsig
 rw [hmode] at hsig
 refine fI.enter hrun (Calls.mono (hsig w ok1 as (xs.map a.eval) r i.okw hargs hr) fun e w' he=> ?_)
 obtain ⟨v,ok',pl,pA,rfl,hb,hok1,hok2,tv,hloc⟩:=he
 have hsizes:Sizes w w':=fun b c T z hc=>⟨c,z,by rw [hb.block b (Array.getElem?_eq_some_iff.1 hc).1];exact hc,rfl⟩
 obtain ⟨i2,l2⟩:=i.lentout (os:=[]) (ok':=ok') (by simp) hb.os hb.tape hb.output hb.size hsizes (fun b hlt _=>hb.block b hlt) hok1 fun b hb=>by
  rcases hok2 b hb with g | g
  ·exact .inl g
  ·exact .inr (.inl g)
 simp only [kill] at i2
 have hnew: ∀k b base plk,mu k=some plk->plk.loc=some (b,base)->b < w.heap.size:=fun k b base plk h1 h2=>(i.own k plk b base h1 h2).2.1
 obtain ⟨mu',i3,f3,l3,m3,_⟩:=i2.addObj hfresh (r:=r) (i0:=0) tv (fun j _=>by rw [Nat.zero_add]) fun b hb2=>by
  obtain ⟨g1,g2⟩:=hloc b hb2
  exact ⟨.inl (Nat.le_trans i.below.size g1),g2,fun o p' base' k1 k2=>absurd (hnew o b base' p' k1 k2) (by omega)⟩
 obtain ⟨b,base,c,T,hl,hv,_⟩:=tv.box
 refine ⟨v,rfl,ok',mu',(l0.trans l2).trans l3,i3,?_,f3⟩
 rw [hv]
 exact .ptr (h1.length+shp.length) 0 pl b base m3 hl
end
end Go.AM
namespace Go.AM
open Go.RowKit
section
variable {P:Program} {w0:World} {ok0:O0} {o:Oper} {a:Act} {w:World} {ok:Nat->Prop} {mu:Mu} {h:List Ob} {fr:List PV}
theorem xR {t:TypeId} (h:xC P t=true):P.plainKey t=true:=by
 unfold xC at h
 unfold Program.plainKey
 split at h<;>simp_all
theorem Wl (d:Nat) {t:TypeId} (ht:xC P t=true) {x y:IV} {u v:Value} (hx:RV w ok x u) (hy:RV w ok y v) {b:Bool} (hb:Rp (Ov P t) x y=some b):
  (Op.equalIn (d+1) t u v).run P w= .ok b w:=by
 unfold xC at ht
 unfold Ov at hb
 split at ht
 ·rename_i hu
  simp only [hu] at hb
  cases x<;>cases y<;>simp only [Rp,reduceCtorEq] at hb
  cases hx;cases hy;cases hb
  exact Go.run_equalIn_bool w d t _ _ hu
 ·rename_i k0 hu
  simp only [hu] at hb
  cases x<;>cases y<;>simp only [Rp,reduceCtorEq] at hb
  split at hb
  ·cases hx;cases hy;cases hb
   subst_vars
   exact Go.run_equalIn_int w d t _ _ _ _ hu
  ·cases hb
 ·rename_i hu
  simp only [hu] at hb
  cases x<;>cases y<;>simp only [Rp,reduceCtorEq] at hb
  cases hx;cases hy;cases hb
  rw [beq_toListBytes]
  exact Go.run_equalIn_string w d t _ _ hu
 ·cases ht
theorem BN (d:Nat) (us vs:Array Value): ∀(fs:List Field) (k:Nat) (xs ys:List IV) (b:Bool),(∀f∈fs,(f.name != "_")=true/\xC P f.type=true)->fs.map (·.offset)=List.range' k fs.length->
  (∀(i:Nat) (x:IV),xs[i]? =some x-> ∃u:Value,us[k+i]? =some u/\RV w ok x u)->(∀(i:Nat) (x:IV),ys[i]? =some x-> ∃u:Value,vs[k+i]? =some u/\RV w ok x u)->
  Fj (fs.map fun f=>Ov P f.type) xs ys=some b->(Op.eqFields (d+1) us vs fs).run P w= .ok b w
 | [],k,xs,ys,b,_,_,_,_,hb=>by
   cases xs<;>cases ys<;>simp [Fj] at hb
   subst hb
   simp [Op.eqFields]
 | f::fs,k,xs,ys,b,hall,hoff,hx,hy,hb=>by
   cases xs with
   | nil=>simp [Fj] at hb
   | cons x xs=>
     cases ys with
     | nil=>simp [Fj] at hb
     | cons y ys=>
       simp only [List.map_cons,Fj] at hb
       obtain ⟨b1,h1,hb⟩:=Option.bind_eq_some_iff.1 hb
       obtain ⟨b2,h2,hb⟩:=Option.bind_eq_some_iff.1 hb
       cases hb
       obtain ⟨hn,hs⟩:=hall f (by simp)
       simp only [List.map_cons,List.length_cons,List.range'_succ,List.cons.injEq] at hoff
       obtain ⟨ho,hoff⟩:=hoff
       obtain ⟨u,hu,ru⟩:=hx 0 x rfl
       obtain ⟨v,hv,rv⟩:=hy 0 y rfl
       have hp:=xR hs
       have e1:=run_part_plain w hp (xs:=us) (off:=f.offset) (v:=u) (by rw [ho];exact hu)
       have e2:=run_part_plain w hp (xs:=vs) (off:=f.offset) (v:=v) (by rw [ho];exact hv)
       have e3:=Wl d hs ru rv h1
       have e4:=BN d us vs fs (k+1) xs ys b2 (fun g hg=>hall g (by simp [hg])) hoff
        (fun i z hz=>by have:=hx (i+1) z (by simpa using hz);rwa [show k+(i+1)=k+1+i by omega] at this)
        (fun i z hz=>by have:=hy (i+1) z (by simpa using hz);rwa [show k+(i+1)=k+1+i by omega] at this) h2
       have hn':f.name≠ "_" :=by simpa using hn
       simp only [Op.eqFields,if_pos hn',Sem.run_bind,e1,e2,e3,Result.andThen_ok]
       cases b1
       ·simp
       ·simpa using e4
theorem aaW {op:BinOp} {t t':TypeId} {x y:Operand} (hop:o.op= .binOp op t x y t') (hf:Sq P t=true) (rx:RP w ok mu (ev fr x) (a.eval x)) (ry:RP w ok mu (ev fr y) (a.eval y)) {as bs:List PV} (hx:ev fr x= .agg as) (hy:ev fr y= .agg bs)
  {us vs:List IV} (hu:Ko as=some us) (hv:Ko bs=some vs) {z:IV} (hz:KN op (Fp P t) us vs=some z):aq P o a w ok mu h (.imm z) h:=by
 rw [hx] at rx;rw [hy] at ry
 have he:execOp a.eval o=(do pure (Next.value (<-do eqGuard op t x y (a.eval x) (a.eval y);binOp op t (a.eval x) (a.eval y)))):=by simp [execOp,hop]
 generalize a.eval x=p at*
 generalize a.eval y=q at*
 unfold Sq at hf
 split at hf
 ·rename_i fs hfs
  simp only [Bool.and_eq_true,Bool.not_eq_true',beq_iff_eq] at hf
  obtain ⟨⟨⟨hst,hgd⟩,hall⟩,hoff⟩:=hf
  cases rx with
  | agg as ps hl hr=>
    cases ry with
    | agg bs qs hl' hr'=>
      have hfo:P.fieldsOf t=fs:=by simp [Program.fieldsOf,hfs]
      have cell: ∀{cs:List PV} {l:List IV} {rs:Array Value},Ko cs=some l->cs.length=rs.size->(∀(i:Nat) (p:PV) (v:Value),cs[i]? =some p->rs[i]? =some v->RP w ok mu p v)-> ∀(i:Nat) (x:IV),l[i]? =some x-> ∃u:Value,rs[0+i]? =some u/\RV w ok x u:=by
       intro cs l rs h1 h2 h3 i x hx
       obtain ⟨h4,h5⟩:=Ig h1
       have hi:i < cs.length:=by have:=(List.getElem?_eq_some_iff.1 hx).1;rw [h4] at this;exact this
       obtain ⟨x',h6,h7⟩:=h5 i cs[i] (List.getElem?_eq_getElem hi)
       rw [hx] at h6;cases h6
       have hi':i < rs.size:=by rw [<-h2];exact hi
       refine ⟨rs[i],by rw [Nat.zero_add];exact Array.getElem?_eq_getElem hi',?_⟩
       have:=h3 i cs[i] rs[i] (List.getElem?_eq_getElem hi) (Array.getElem?_eq_getElem hi')
       rw [h7] at this
       cases this with | imm r=>exact r
      have key: ∀b,Fj (Fp P t) us vs=some b->(Op.equalIn 10000 t (.agg ps) (.agg qs)).run P w= .ok b w:=by
       intro b hb
       rw [run_equalIn_struct w 9999 t ps qs (by rw [hfo];exact hfs) hst,hfo]
       refine BN 9998 ps qs fs.toList 0 us vs b (fun f hf=> ?_) (by rw [hoff,List.range_eq_range'];simp) (cell hu hl hr) (cell hv hl' hr') (by simpa [Fp,hfs] using hb)
       have:=Array.all_eq_true_iff_forall_mem.1 hall f (by simpa using hf)
       simpa using this
      have hg:=run_eqGuard_agg w op t x y ps qs hgd
      unfold KN at hz
      split at hz
      ·obtain ⟨b,hb,rfl⟩:=Option.map_eq_some_iff.1 hz
       refine aq.value ?_ (.imm (.bool _))
       rw [he]
       simp [Sem.run_bind,hg,Result.andThen,run_eql_struct,key b hb]
      ·obtain ⟨b,hb,rfl⟩:=Option.map_eq_some_iff.1 hz
       refine aq.value ?_ (.imm (.bool _))
       rw [he]
       simp [Sem.run_bind,hg,Result.andThen,run_neq_struct,key b hb]
      ·cases hz
 ·cases hf
theorem Z5 {s d e:TypeId} {x:Operand} (hop:o.op= .convert s d x) (hs:P.underlying s=some .string) (hd:P.underlying d=some (.slice e)) (he:P.underlying e=some (.int .u8)) (iq:InvQ w ok mu h) {u z:IV} (hx:ev fr x= .imm u) (rx:RP w ok mu (ev fr x) (a.eval x)) (hz:Se u=some z):
  aq P o a w ok mu h (.imm z) h:=by
 rw [hx] at rx
 cases rx with
 | imm rx=>
   have hex:execOp a.eval o=(do pure (Next.value (<-convert s d (a.eval x)))):=by simp [execOp,hop]
   generalize a.eval x=q at*
   unfold Se at hz
   split at hz
   ·rename_i str
    cases hz
    cases rx
    have hrun:=Lib.run_convert_string_bytes (P:=P) w s d e str hs hd he
    refine ⟨[],[],h,rfl,by simp,?_⟩
    refine fI.value (w':=Lib.bytesWorld w e str) (by rw [hex];exact eU hrun) ?_
    have hsize:=Lib.bytesWorld_size w e str
    have hbelow:Below w.heap.size w (Lib.bytesWorld w e str):=
     ⟨by simp [Lib.bytesWorld,World.freeze,World.alloc,World.drew,-World.alloc_eq,-World.drew_eq],by simp [Lib.bytesWorld,World.freeze,World.alloc,World.drew,-World.alloc_eq,-World.drew_eq],by simp [Lib.bytesWorld,World.freeze,World.alloc,World.drew,-World.alloc_eq,-World.drew_eq],by omega,fun k hk=>Lib.bytesWorld_at_old w e str k hk⟩
    refine ⟨fun b=>ok b\/b=w.heap.size,mu,hbelow,fun b hb=> .inl hb,fun b hb=> ?_,fun _ _=>rfl,.inl ⟨rfl,rfl⟩,?_⟩
    ·rcases hb with hb | hb
     ·exact .inl hb
     ·exact .inr (.inl (by omega))
    ·have hlen:(str.data.toList.map fun b=>[IV.int .u8 b.toNat]).length=str.size:=by simp
     have key:RV (Lib.bytesWorld w e str) (fun b=>ok b\/b=w.heap.size) (.lst (str.data.toList.map fun b=>[IV.int .u8 b.toNat])) (.slice (some ⟨w.heap.size,0,none⟩) (str.data.toList.map fun b=>[IV.int .u8 b.toNat]).length (grownCap w str.size 0 e)):=by
      refine .lst _ _ _ 1 (fun i j=> .int .u8 (str.data.toList.getD i 0).toNat) (by rw [hlen];exact grownCap_ge w _ _ _) (fun c hc=> ?_) (fun i j hi hj=> ?_) (fun i j c x h1 h2=> ?_)
      ·obtain ⟨b,_,rfl⟩:=List.mem_map.1 hc;rfl
      ·rw [hlen] at hi
       refine ⟨_,rfl,.inr rfl,?_⟩
       have:j=0:=by omega
       subst this
       rw [cg]
       simpa using Lib.bytesWorld_cell w e str i hi
      ·rw [List.getElem?_map] at h1
       cases hb:str.data.toList[i]? with
       | none=>rw [hb] at h1;cases h1
       | some b=>
         rw [hb] at h1
         cases h1
         cases j with
         | zero=>
           cases h2
           simp only [List.getD_eq_getElem?_getD,hb,Option.getD_some]
           exact .int _ _
         | succ j=>simp at h2
     rw [hlen] at key
     exact .imm key
   ·cases hz
end
end Go.AM
namespace Go.AM
open Go.RowKit
structure Turned (w w':World) (b:Nat):Prop where
 os:w'.os=w.os
 tape:w'.tape=w.tape
 output:w'.output=w.output
 size:w'.heap.size=w.heap.size
 other: ∀b',b'≠b->w'.heap[b']? =w.heap[b']?
 sizes:Sizes w w'
section
variable {w0:World} {ok0:O0} {w w':World} {ok:Nat->Prop} {mu:Mu} {h:List Ob} {b:Nat}
theorem Turned.below (r:Turned w w' b) (i:BelowM ok0.lent w0.heap.size w0 w) (hb:Own0 w0 ok0 b):BelowM ok0.lent w0.heap.size w0 w':=
 ⟨r.os.trans i.os,r.tape.trans i.tape,r.output.trans i.output,by rw [r.size];exact i.size,fun k hk hm=>(r.other k (hb.ne hk hm)).trans (i.block k hk hm)⟩
theorem Turned.later (r:Turned w w' b) (hok: ¬ok b) {mu':Mu} (hm: ∀o pl,mu o=some pl->mu' o=some pl):Later w ok mu w' ok mu':=
 ⟨⟨fun b' hb'=>r.other b' (fun e=>hok (e▸hb')),fun _ h=>h⟩,hm,r.sizes⟩
theorem Inv.turn (i:Inv w0 ok0 w ok mu h) (hfresh: ∀q,h.length<=q->mu q=none) {o:Nat} {pl:Pl} {base:Nat} (hm:mu o=some pl) (hl:pl.loc=some (b,base)) (hlive:(getOb h o).live=true) (hnf:(getOb h o).fz=false) (r:Turned w w' b)
  {ob:Ob} (hob:ObOk w' ok mu pl ob) (holive:ob.live=true):Inv w0 ok0 w' ok mu (h.set o ob)/\Later w ok mu w' ok mu/\ ∀q,(h.set o ob).length<=q->mu q=none:=by
 obtain ⟨hb0,hb1,hnok⟩:=i.own o pl b base hm hl
 have hok:=hnok hlive hnf
 have hol:o < h.length:=iT hlive
 have hlater:=r.later (mu:=mu) (mu':=mu) hok (fun _ _ h=>h)
 refine ⟨⟨r.below i.below hb0,fun b' hb=>by rw [r.size];exact i.okw b' hb,i.okb,fun q plq hmq=> ?_,fun q plq b' base' hmq hlq=> ?_,fun q q' plq plq' b' bs bs' h1 h2 h3 h4 h5 h6=> ?_⟩,hlater,fun q hq=>hfresh q (by simpa using hq)⟩
 ·rw [aR]
  split
  ·rename_i e;obtain ⟨rfl,_⟩:=e;rw [hm] at hmq;cases hmq;exact hob
  ·rename_i e
   by_cases hlq:(getOb h q).live=true
   ·refine (i.ob q plq hmq).later hlater fun b' base' hlb=>r.other b' fun e'=> ?_
    subst e'
    have:=i.inj q o plq pl b' base' base hmq hm hlb hl hlq hlive
    exact e ⟨this.symm,hol⟩
   ·have:getOb h q= .dead:=by cases hg:getOb h q<;>rw [hg] at hlq<;>first | rfl | exact absurd rfl hlq
    rw [this];trivial
 ·obtain ⟨g1,g2,g3⟩:=i.own q plq b' base' hmq hlq
  refine ⟨g1,by rw [r.size];exact g2,fun hlv hnz=> ?_⟩
  rw [aR] at hlv hnz
  split at hlv
  ·rename_i e;obtain ⟨rfl,_⟩:=e;exact g3 hlive hnf
  ·rename_i e;rw [if_neg e] at hnz;exact g3 hlv hnz
 ·have hback: ∀q,(getOb (h.set o ob) q).live=true->(getOb h q).live=true:=fun q hq=>by
   rw [aR] at hq
   split at hq
   ·rename_i e;obtain ⟨rfl,_⟩:=e;exact hlive
   ·exact hq
  exact i.inj q q' plq plq' b' bs bs' h1 h2 h3 h4 (hback q h5) (hback q' h6)
end
theorem Uf {P:Program} {t:TypeId} {q:Kt} {k:IV} (h:XU P t=some q) (hk:QP q k=true):L2 P t k=true:=by
 unfold XU at h
 unfold L2
 split at h<;>cases h
 all_goals rename_i e;rw [e]
 all_goals cases k<;>first | exact hk | (simp [QP] at hk) | rfl
theorem IB {P:Program} {t:TypeId} {k:IV} {v:Value} {w:World} {ok:Nat->Prop} (h:L2 P t k=true) (r:RV w ok k v): ∃d,P.underlying t=some d/\MapKept.IsKey d v:=by
 unfold L2 at h
 split at h
 ·rename_i q q' n hd;cases r;exact ⟨_,hd,by have:=of_decide_eq_true h;subst this;exact (by simp [MapKept.IsKey])⟩
 ·rename_i hd;cases r;exact ⟨_,hd,by simp [MapKept.IsKey]⟩
 ·rename_i hd;cases r;exact ⟨_,hd,by simp [MapKept.IsKey]⟩
 ·cases h
theorem WX {d:TypeDesc} {k k':IV} {v v':Value} {w:World} {ok:Nat->Prop} (hd:MapKept.IsKey d v) (r:RV w ok k v) (r':RV w ok k' v') {b:Bool} (h:Ln k k'=some b):Instr.sameNow d v v'=some b:=by
 unfold Ln at h
 split at h
 ·cases r;cases r'
  cases d<;>simp_all [MapKept.IsKey,Instr.sameNow]
 ·cases r;cases r'
  cases d<;>simp_all [MapKept.IsKey,Instr.sameNow]
 ·cases r;cases r'
  cases d<;>simp_all [MapKept.IsKey,Instr.sameNow]
 ·cases h
theorem Ve {d:TypeDesc} {v v':Value} (hd:MapKept.IsKey d v) (h:Instr.sameNow d v v'=some true) (n:Nat):Instr.sameBits n v' v=true:=by
 unfold Instr.sameNow at h
 split at h
 ·split at h
  ·rename_i e
   simp only [Option.some.injEq,beq_iff_eq] at h
   subst e;subst h
   cases n<;>simp [Instr.sameBits]
  ·cases h
 ·have e2:=(MapKept.bytes_beq _ _).1 (by simpa using h)
  subst e2
  cases n<;>simp [Instr.sameBits,MapKept.bytes_beq]
 ·simp only [Option.some.injEq,beq_iff_eq] at h
  subst h
  cases n<;>simp [Instr.sameBits]
 ·cases h
theorem find_spec {d:TypeDesc} {k:IV} {kv:Value} {w:World} {ok:Nat->Prop} (hd:MapKept.IsKey d kv) (rk:RV w ok k kv): ∀(es:List (List IV)) (me:List MapEntry) (i:Nat) (r:Option (Nat×IV)),es.length=me.length->
  (∀(n j:Nat) (e:List IV) (c:IV) (x:MapEntry),es[n]? =some e->e[j]? =some c->me[n]? =some x->RV w ok c (if j=0 then x.key else x.val))->vP k es i=some r->
  match r with
  | none=>Instr.findNow d kv me i=some none
  | some (n,v)=> ∃x:MapEntry,i<=n/\me[n - i]? =some x/\Instr.findNow d kv me i=some (some (n,x.val))/\RV w ok v x.val/\Instr.sameNow d kv x.key=some true
 | [],[],i,r,_,_,h=>by simp only [vP,Option.some.injEq] at h;subst h;rfl
 | [],_::_,i,r,hl,_,_=>by simp at hl
 | _::_,[],i,r,hl,_,_=>by simp at hl
 | e::es,x::me,i,r,hl,hr,h=>by
   match e,h with
   | [k',v],h=>
     simp only [vP] at h
     have h1:RV w ok k' x.key:=hr 0 0 _ k' x rfl rfl rfl
     have h2:RV w ok v x.val:=hr 0 1 _ v x rfl rfl rfl
     cases hs:Ln k k' with
     | none=>rw [hs] at h;cases h
     | some b=>
       rw [hs] at h
       have hn:=WX hd rk h1 hs
       cases b with
       | true=>
         simp only [Option.some.injEq] at h
         subst h
         exact ⟨x,Nat.le_refl _,by simp,by simp [Instr.findNow,hn],h2,hn⟩
       | false=>
         simp only at h
         have ih:=find_spec hd rk es me (i+1) r (by simpa using hl) (fun n j e c y g1 g2 g3=>hr (n+1) j e c y (by simpa using g1) g2 (by simpa using g3)) h
         cases r with
         | none=>simp only at ih ⊢;simp [Instr.findNow,hn,ih]
         | some p=>
           obtain ⟨n,u⟩:=p
           obtain ⟨y,g1,g2,g3,g4,g5⟩:=ih
           refine ⟨y,by omega,?_,by simp [Instr.findNow,hn,g3],g4,g5⟩
           rw [show n - i=(n - (i+1))+1 by omega]
           simpa using g2
section
variable {P:Program} {w0:World} {ok0:O0} {o:Oper} {a:Act} {w:World} {ok:Nat->Prop} {mu:Mu} {h:List Ob} {fr:List PV}
theorem QT {t:TypeId} (h:CB P t=true): ∃k e,P.underlying t=some (.map k e):=by
 unfold CB at h
 split at h
 ·exact ⟨_,_,‹_›⟩
 ·cases h
theorem Vi {t:TypeId} (hop:o.op= .makeMap t none) (iq:InvQ w ok mu h) (hn:mu h.length=none):aq P o a w ok mu h (.mp h.length) (h++[.arr .rw 0 (.map [])]):=by
 refine ⟨[.arr .rw 0 (.map [])],[],h,rfl,rfl,?_⟩
 have hrun:(execOp a.eval o).run P w= .ok (.value (.map (some w.heap.size))) (w.alloc (.map #[] 0)):=by
  have he:execOp a.eval o=(do pure (Next.value (<-Instr.makeMap t none))):=by simp [execOp,hop]
  rw [he]
  exact eU (run_makeMap t w)
 refine fI.value hrun ⟨ok,fun q=>if q=h.length then some ⟨some (w.heap.size,0),0,0⟩ else mu q,(Below.refl _ _).alloc (Nat.le_refl _) _,fun _ hb=>hb,fun _ hb=> .inl hb,fun q hq=>by simp [hq],.inr ⟨_,⟨some (w.heap.size,0),0,0⟩,rfl,by simp,rfl,?_,fun b base hb=> ?_⟩,
  .mp _ ⟨some (w.heap.size,0),0,0⟩ w.heap.size (by simp) rfl rfl⟩
 ·exact .inr ⟨rfl,[],w.heap.size,rfl,rfl,#[],0,ea w _,rfl,by simp,fun i j e c x g1 _ _=>by simp at g1⟩
 ·cases hb
  exact ⟨Nat.le_refl _,by show w.heap.size < (w.heap.push _).size;simp,fun hb=>by have:=iq.okw _ hb;omega⟩
theorem Ph {t:TypeId} (hop:o.op= .buildSlice t 0 #[]) {e:TypeId} (hu:P.underlying t=some (.slice e)) (iq:InvQ w ok mu h) (hpos:0 < P.cellsOf e):aq P o a w ok mu h .nils h:=by
 obtain ⟨ie,hie⟩:=Option.isSome_iff_exists.1 (gG hpos)
 have hex:execOp a.eval o=(do pure (Next.value (<-Instr.buildSlice t 0 #[]))):=by simp [execOp,hop]
 have hrun:(Instr.buildSlice t 0 #[]).run P w= .ok (.slice (some ⟨w.heap.size,0,none⟩) 0 0) (w.alloc (.cells #[] e)):=by
  simp [Instr.buildSlice,run_underlying hu,run_sizeOf w hie,Instr.fill,newRow,Sem.run_bind,Result.andThen,pure,Sem.run]
  congr 2
  apply Array.eq_empty_of_size_eq_zero
  simp
 exact ⟨[],[],h,rfl,by simp,fI.value (by rw [hex];exact eU hrun) ⟨ok,mu,(Below.refl _ _).alloc (Nat.le_refl _) _,fun _ hb=>hb,fun _ hb=> .inl hb,fun _ _=>rfl,.inl ⟨rfl,rfl⟩,.nils _⟩⟩
theorem Ud (iq:InvQ w ok mu h) {p:PV} {v:Value} (r:RP w ok mu p v) {es:List (List IV)} (hs:xv h p=some (.map es)): ∃b,v= .map (some b)/\Di w ok b es:=by
 cases p with
 | imm x=>
   simp only [xv,Option.some.injEq] at hs
   subst hs
   cases r with
   | imm r=>cases r with | map es b me clock hok hb hlen h2 hrel=>exact ⟨b,rfl,me,clock,hb,hlen,h2,hrel⟩
 | mp q=>
   simp only [xv] at hs
   cases r with
   | mp q pl b hm hl hz=>
     split at hs
     ·rename_i md sz x hg
      cases hs
      have hob:=iq.ob q pl hm
      rw [hg] at hob
      obtain ⟨_,es',h1,h2⟩:=hob.mapZ hz hl
      cases h1
      exact ⟨b,rfl,h2⟩
     ·cases hs
 | _=>simp [xv] at hs
theorem Us {x k z:IV} {r:List IV} (h:LA x k z=some r): ∃es f,x= .map es/\vP k es 0=some f/\r=(match f with | some (_,v)=>[v,.bool true] | none=>[z,.bool false]):=by
 unfold LA at h
 split at h
 ·obtain ⟨f,h1,h2⟩:=Option.map_eq_some_iff.1 h
  exact ⟨_,f,rfl,h1,h2.symm⟩
 ·cases h
theorem Uw {t:TypeId} {z:IV} (h:TP P t=some z) (w:World) (ok:Nat->Prop): ∃v,(zeroValue t).run P w= .ok v w/\RV w ok z v:=by
 unfold TP at h
 split at h
 ·rename_i v hv
  split at h
  ·rename_i x hx
   cases h
   unfold gh at hv
   obtain ⟨i,h1,h2⟩:=Option.bind_eq_some_iff.1 hv
   refine ⟨v,by simp [zeroValue,run_typeInfo w h1,h2,Result.andThen],?_⟩
   have:=RP.iI w ok (fun _=>none) v
   rw [hx] at this
   cases this with | imm r=>exact r
  ·cases h
 ·cases h
theorem Wb {t:TypeId} {m x:Operand} {c:Bool} (hop:o.op= .lookup t m x c) {kt et:TypeId} (ht:P.underlying t=some (.map kt et)) (iq:InvQ w ok mu h) (hf:Fr w ok mu fr a.tmps) {y key z:IV} (hy:xv h (ev fr m)=some y) (hx:ev fr x= .imm key) (hk:L2 P kt key=true) (hz:TP P et=some z) {r:List IV} (hr:LA y key z=some r):
  aq P o a w ok mu h (if c then .tup [.imm (nth r 0),.imm (nth r 1)] else .imm (nth r 0)) h:=by
 obtain ⟨es,f,rfl,hfi,rfl⟩:=Us hr
 obtain ⟨b,hm,me,clock,hb,hlen,h2,hrel⟩:=Ud iq (hf.ev m) hy
 have rx:=hf.ev x
 rw [hx] at rx
 cases rx with
 | imm rx=>
   obtain ⟨d,hd,hik⟩:=IB hk rx
   obtain ⟨zv,hzr,hzv⟩:=Uw hz w ok
   have hs:=find_spec hik rx es me.toList 0 f (by simpa using hlen) (fun n j e c x g1 g2 g3=>hrel n j e c x g1 g2 (by simpa using g3)) hfi
   have he:execOp a.eval o=(do pure (Next.value (<-Instr.lookup t (a.eval m) (a.eval x) c))):=by simp [execOp,hop]
   have fin: ∀(v:Value) (u:Value) (q:Bool),RV w ok (nth (match f with | some (_,v)=>[v,.bool true] | none=>[z,.bool false]) 0) v->u= .bool q->RV w ok (nth (match f with | some (_,v)=>[v,.bool true] | none=>[z,.bool false]) 1) u->
     RP w ok mu (if c then .tup [.imm (nth (match f with | some (_,v)=>[v,.bool true] | none=>[z,.bool false]) 0),.imm (nth (match f with | some (_,v)=>[v,.bool true] | none=>[z,.bool false]) 1)] else .imm (nth (match f with | some (_,v)=>[v,.bool true] | none=>[z,.bool false]) 0)) (if c then .tuple #[v,u] else v):=by
    intro v u q h1 _ h3
    cases c with
    | false=>exact .imm h1
    | true=>
      refine .tup _ _ rfl fun i p v' g1 g2=> ?_
      match i,g1,g2 with
      | 0,g1,g2=>simp at g1 g2;subst g1;subst g2;exact .imm h1
      | 1,g1,g2=>simp at g1 g2;subst g1;subst g2;exact .imm h3
      | i+2,g1,g2=>simp at g1
   cases f with
   | none=>
     have hs':Instr.findNow d (a.eval x) me.toList 0=some none:=hs
     refine aq.val he (v:=if c then .tuple #[zv,.bool false] else zv) ?_ (fin zv (.bool false) false hzv rfl (.bool false))
     rw [hm]
     simp [Instr.lookup,run_underlying ht,MapKept.run_getObj_map hb,MapKept.run_checkKey hd hik,MapKept.run_findKey hd hs',hzr,Result.andThen]
   | some p=>
     obtain ⟨n,v⟩:=p
     obtain ⟨e0,_,_,h5,h6,_⟩:=hs
     refine aq.val he (v:=if c then .tuple #[e0.val,.bool true] else e0.val) ?_ (fin e0.val (.bool true) true h6 rfl (.bool true))
     rw [hm]
     simp [Instr.lookup,run_underlying ht,MapKept.run_getObj_map hb,MapKept.run_checkKey hd hik,MapKept.run_findKey hd h5,Result.andThen]
theorem Q4 {c:Call} (hop:o.op= .call c) (hc:c.callee= .builtin .len) {x:Operand} (hargs:c.args= #[x]) (hat:(c.argTypes[0]?).isSome=true) (ht:CB P (c.argTypes.getD 0 0)=true) (iq:InvQ w ok mu h) (hf:Fr w ok mu fr a.tmps) {y z:IV} (hy:xv h (ev fr x)=some y) (hz:DM y=some z):
  aq P o a w ok mu h (.imm z) h:=by
 obtain ⟨k,e,hu⟩:=QT ht
 unfold DM at hz
 split at hz
 ·rename_i es
  cases hz
  obtain ⟨b,hm,me,clock,hb,hlen,_⟩:=Ud iq (hf.ev x) hy
  obtain ⟨t0,h0⟩:=Option.isSome_iff_exists.1 hat
  have ht0:c.argTypes.getD 0 0=t0:=by simp [Array.getD_eq_getD_getElem?,h0]
  rw [ht0] at hu
  have hrun:(Builtin.len_ c.argTypes o.type #[.map (some b)]).run P w= .ok (.int .i64 es.length) w:=by
   have hlt:0 < c.argTypes.size:=(Array.getElem?_eq_some_iff.1 h0).1
   have h00:c.argTypes[0]! =t0:=by rw [getElem!_def,h0]
   simp [Builtin.len_,h0,run_underlying hu,MapKept.run_getObj_map hb,Result.andThen,goInt,hlen]
  have he:execOp a.eval o=(do pure (Next.value (<-Builtin.len_ c.argTypes o.type #[a.eval x]))):=mc hop hc fun consts=>by simp [builtin,hargs]
  exact aq.val he (by rw [hm];exact hrun) (.imm (.int _ _))
 ·cases hz
theorem UQ {x k v z:IV} (h:L3 x k v=some z): ∃es f,x= .map es/\vP k es 0=some f/\z= .map (match f with | some (i,_)=>es.set i [k,v] | none=>es++[[k,v]]):=by
 unfold L3 at h
 split at h
 ·obtain ⟨f,h1,h2⟩:=Option.bind_eq_some_iff.1 h
  refine ⟨_,f,rfl,h1,?_⟩
  cases f<;>simp at h2<;>rw [<-h2]
 ·cases h
theorem Rk {k v c:IV} {j:Nat} (h:[k,v][j]? =some c):(j=0/\c=k)\/(j=1/\c=v):=by
 match j,h with
 | 0,h=>simp at h;exact .inl ⟨rfl,h.symm⟩
 | 1,h=>simp at h;exact .inr ⟨rfl,h.symm⟩
 | j+2,h=>simp at h
theorem R5 {b:Nat} {me:Array MapEntry} {clock:Nat} (hb:w.heap[b]? =some (.map me clock)) (o':Obj):Turned w { w with heap:=w.heap.setIfInBounds b o' } b:=by
 obtain ⟨h1,h2⟩:=MapKept.heap_set (o':=o') hb
 refine ⟨rfl,rfl,rfl,by simp,h2,fun b' c T z hc=>⟨c,z,?_,rfl⟩⟩
 by_cases e:b'=b
 ·subst e;rw [hb] at hc;cases hc
 ·exact (h2 b' e).trans hc
theorem Rl {t:TypeId} {m x v:Operand} (hop:o.op= .mapUpdate t m x v) {kt et:TypeId} (ht:P.underlying t=some (.map kt et)) (i:Inv w0 ok0 w ok mu h) (hfresh: ∀q,h.length<=q->mu q=none) (hf:Fr w ok mu fr a.tmps)
  {q:Nat} (hm:ev fr m= .mp q) {sz:Nat} {y:IV} (hg:getOb h q= .arr .rw sz y) {key val z:IV} (hx:ev fr x= .imm key) (hv:ev fr v= .imm val) (hk:L2 P kt key=true) (hz:L3 y key val=some z):
  pX P w0 ok0 o a w ok mu .skip (h.set q (.arr .rw sz z)):=by
 obtain ⟨es,f,rfl,hfi,rfl⟩:=UQ hz
 have rm:=hf.ev m
 rw [hm] at rm
 have rx:=hf.ev x
 rw [hx] at rx
 have rv:=hf.ev v
 rw [hv] at rv
 have he:execOp a.eval o=(do Instr.mapUpdate t (a.eval m) (a.eval x) (a.eval v);pure Next.skip):=by simp [execOp,hop]
 generalize a.eval m=vm at*
 generalize a.eval x=vx at*
 generalize a.eval v=vv at*
 cases rm with
 | mp q pl b hmu hl hz0=>
 cases rx with
 | imm rx=>
 cases rv with
 | imm rv=>
   have hob:=i.ob q pl hmu
   rw [hg] at hob
   have hps:=hob.sz
   obtain ⟨_,_,h1,me,clock,hb,hlen,h2,hrel⟩:=hob.mapZ hz0 hl
   cases h1
   obtain ⟨d,hd,hik⟩:=IB hk rx
   have hlive:(getOb h q).live=true:=by rw [hg];rfl
   have hnf:(getOb h q).fz=false:=by rw [hg];rfl
   have hnok:=(i.own q pl b 0 hmu hl).2.2 hlive hnf
   have hs:=find_spec hik rx es me.toList 0 f (by simpa using hlen) (fun n j e c x g1 g2 g3=>hrel n j e c x g1 g2 (by simpa using g3)) hfi
   have key: ∀(me':Array MapEntry) (clock':Nat) (es':List (List IV)),(Instr.mapUpdate t (.map (some b)) vx vv).run P w= .ok () { w with heap:=w.heap.setIfInBounds b (.map me' clock') }->es'.length=me'.size->(∀e∈es',e.length=2)->
     (∀(n j:Nat) (e:List IV) (c:IV) (x:MapEntry),es'[n]? =some e->e[j]? =some c->me'[n]? =some x->RV w ok c (if j=0 then x.key else x.val))->pX P w0 ok0 o a w ok mu .skip (h.set q (.arr .rw sz (.map es'))):=by
    intro me' clock' es' hrun h3 h4 h5
    have htn:=R5 (w:=w) hb (.map me' clock')
    have hlater:=htn.later (ok:=ok) (mu:=mu) (mu':=mu) hnok (fun _ _ h=>h)
    obtain ⟨g1,g2,g3⟩:=i.turn hfresh hmu hl hlive hnf htn (ob:= .arr .rw sz (.map es')) (.inr ⟨hps,es',b,rfl,hl,me',clock',(MapKept.heap_set hb).1,h3,h4,fun n j e c x k1 k2 k3=>(h5 n j e c x k1 k2 k3).keeps hlater.keeps⟩) rfl
    exact fI.skip (by rw [he];exact FY hrun) ⟨ok,mu,g2,g1,.skip,g3⟩
   cases f with
   | none=>
     have hs':Instr.findNow d vx me.toList 0=some none:=hs
     refine key (me.push { key:=vx,val:=vv,born:=clock }) (clock+1) _ ?_ (by simp [hlen]) (fun e he=> ?_) (fun n j e c x g1 g2 g3=> ?_)
     ·simp [Instr.mapUpdate,run_underlying ht,MapKept.run_getObj_map hb,MapKept.run_checkKey hd hik,MapKept.run_findKey hd hs',MapKept.run_setObj_map _ hb,Result.andThen]
     ·rcases List.mem_append.1 he with he | he
      ·exact h2 e he
      ·simp at he;subst he;rfl
     ·by_cases hn:n < es.length
      ·rw [List.getElem?_append_left hn] at g1
       rw [Array.getElem?_push,if_neg (by omega)] at g3
       exact hrel n j e c x g1 g2 g3
      ·rw [List.getElem?_append_right (by omega)] at g1
       obtain rfl:n=es.length:=by
        have:=(List.getElem?_eq_some_iff.1 g1).1;simp at this;omega
       simp at g1
       subst g1
       rw [Array.getElem?_push,if_pos hlen] at g3
       cases g3
       rcases Rk g2 with ⟨rfl,rfl⟩ | ⟨rfl,rfl⟩
       ·exact rx
       ·exact rv
   | some p=>
     obtain ⟨n,u⟩:=p
     obtain ⟨x0,_,h4,h5,h6,h7⟩:=hs
     simp only [Nat.sub_zero] at h4
     have hx0:me[n]? =some x0:=by simpa using h4
     have hnl:n < me.size:=(Array.getElem?_eq_some_iff.1 hx0).1
     refine key (me.modify n fun e=>{ e with key:=vx,val:=vv }) clock _ ?_ (by simp [hlen]) (fun e he=> ?_) (fun n' j e c x g1 g2 g3=> ?_)
     ·simp [Instr.mapUpdate,run_underlying ht,MapKept.run_getObj_map hb,MapKept.run_checkKey hd hik,MapKept.run_findKey hd h5,MapKept.run_setObj_map _ hb,Result.andThen,Instr.keyThatStays,hx0,Ve hik h7]
     ·rcases List.mem_or_eq_of_mem_set he with he | he
      ·exact h2 e he
      ·subst he;rfl
     ·rw [Array.getElem?_modify] at g3
      by_cases e1:n=n'
      ·subst e1
       rw [List.getElem?_set_self (by omega)] at g1
       cases g1
       rw [if_pos rfl,hx0] at g3
       cases g3
       rcases Rk g2 with ⟨rfl,rfl⟩ | ⟨rfl,rfl⟩
       ·exact rx
       ·exact rv
      ·rw [List.getElem?_set_ne e1] at g1
       rw [if_neg e1] at g3
       exact hrel n' j e c x g1 g2 g3
end
end Go.AM
namespace Go.AM
open Go.RowKit
section
variable {P:Program} {w0:World} {ok0:O0} {o:Oper} {a:Act} {w:World} {ok:Nat->Prop} {mu:Mu} {h:List Ob} {fr:List PV}
theorem Ws {w:World} {ok:Nat->Prop} (mu:Mu) {z:Value} {x:IV} (hz:Xg z=some x):RV w ok x z:=by
 unfold Xg at hz
 have r:= @RP.iI w ok mu z
 split at hz
 ·rename_i y hy
  cases hz
  rw [hy] at r
  cases r with
  | imm r=>exact r
 ·rename_i hy
  cases hz
  rw [hy] at r
  cases r with
  | nils a=>exact RV.lst [] a 0 0 (fun _ _=>undef) (Nat.le_refl _) (by simp) (by simp) (by simp)
 ·cases hz
theorem OV {t:TypeId} {l c:Operand} (hop:o.op= .makeSlice t l c) {e:TypeId} (hu:P.underlying t=some (.slice e)) (iq:InvQ w ok mu h) (hn:mu h.length=none) (hf:Fr w ok mu fr a.tmps) {x y:IV} (hl:ev fr l= .imm x) (hc:ev fr c= .imm y)
  {row:List IV} (hrow:VM P e=some row) {z:IV} (hz:TT (P.bytesOf e) row x y=some z):aq P o a w ok mu h (.buf h.length (bQ z)) (h++[.arr .rw (P.cellsOf e) z]):=by
 have hex:execOp a.eval o=(do pure (Next.value (<-Instr.makeSlice t (a.eval l) (a.eval c)))):=by simp [execOp,hop]
 have rl:=hf.ev l
 have rc:=hf.ev c
 rw [hl] at rl
 rw [hc] at rc
 unfold VM at hrow
 split at hrow
 ·rename_i zv hzv
  split at hrow
  ·rename_i hcond
   obtain ⟨hsz,hpos⟩:=hcond
   obtain ⟨hrl,hrg⟩:=ed hrow
   have hi: ∃i,P.info? e=some i/\i.zero=some zv:=by
    unfold gh at hzv
    exact Option.bind_eq_some_iff.1 hzv
   obtain ⟨i,hi,hiz⟩:=hi
   have hib:i.bytes=P.bytesOf e:=by simp [Program.bytesOf,hi]
   have his:i.size=P.cellsOf e:=by simp [Program.cellsOf,hi]
   unfold TT at hz
   split at hz
   ·rename_i k n k' m
    split at hz
    ·rename_i hb
     obtain ⟨rfl,h0,hbig⟩:=hb
     cases hz
     generalize a.eval l=vl at rl hex
     generalize a.eval c=vc at rc hex
     cases rl with
     | imm rl=>
     cases rc with
     | imm rc=>
     cases rl
     cases rc
     obtain ⟨N,rfl⟩: ∃N:Nat,n=(N:Int):=⟨n.toNat,by omega⟩
     have htn:(N:Int).toNat=N:=by omega
     rw [htn] at hbig ⊢
     have hNb:N*P.bytesOf e<=2 ^ 40:=Nat.le_trans (Nat.mul_le_mul_left _ (by omega)) hbig
     have hN:N<=2 ^ 40:=Nat.le_trans (Nat.le_mul_of_pos_right _ (by omega)) hbig
     have hbytes:(i.bytes:Int)*(N:Int)<=281474976710656:=by
      rw [hib]
      have h1:((P.bytesOf e*N:Nat):Int)<=((2 ^ 40:Nat):Int):=by rw [Nat.mul_comm];exact Int.ofNat_le.2 hNb
      rw [Int.natCast_mul] at h1
      have h2:((2 ^ 40:Nat):Int)<=281474976710656:=by decide
      exact Int.le_trans h1 h2
     have hrun:=Go.run_make (P:=P) w t e i zv hu hi hiz k k' (N:Int) (N:Int) (by omega) (Int.le_refl _) hbytes (by omega)
     rw [htn,his] at hrun
     have hesl:(List.replicate N row).length=N:=by simp
     have hrow':row.length=P.cellsOf e:=by rw [hrl];simpa using hsz
     have hall: ∀e'∈List.replicate N row,e'.length=P.cellsOf e:=fun e' he'=>by rw [List.eq_of_mem_replicate he'];exact hrow'
     have hcell: ∀(i j:Nat) (e':List IV) (x:IV),(List.replicate N row)[i]? =some e'->e'[j]? =some x-> ∃v,(Go.madeCells zv.cells (N*P.cellsOf e)).toList[i*P.cellsOf e+j]? =some v/\RV w ok x v:=by
      intro i j e' x hi hj
      have hiN:i < N:=by have:=(List.getElem?_eq_some_iff.1 hi).1;simpa using this
      have he':e'=row:=List.eq_of_mem_replicate (List.mem_of_getElem? hi)
      subst he'
      have hj':j < P.cellsOf e:=by rw [<-hrow'];exact (List.getElem?_eq_some_iff.1 hj).1
      have hq:i*P.cellsOf e+j < N*P.cellsOf e:=wY hiN hj'
      have hjz:j < zv.cells.toList.length:=by simpa [hsz] using hj'
      obtain ⟨x',h3,h4⟩:=hrg j zv.cells.toList[j] (List.getElem?_eq_getElem hjz)
      rw [hj] at h3;cases h3
      refine ⟨zv.cells.toList[j],?_,Ws mu h4⟩
      have hmod:(i*P.cellsOf e+j) % zv.cells.size=j:=by
       rw [hsz,Nat.mul_comm,Nat.mul_add_mod,Nat.mod_eq_of_lt hj']
      have hjz':j < zv.cells.size:=by simpa using hjz
      unfold Go.madeCells
      simp only [Array.toList_map,Array.toList_range,List.getElem?_map,List.getElem?_range hq,Option.map_some,hmod,Array.getElem_toList]
      rw [getElem!_pos zv.cells j hjz']
     have hrows:Rows w ok (List.replicate N row) (P.cellsOf e) (Go.madeCells zv.cells (N*P.cellsOf e)).toList:=by
      refine ⟨by simp [Go.madeCells],fun v hv=> ?_,hcell⟩
      obtain ⟨q,hq⟩:=ni hv
      have hql:q < N*P.cellsOf e:=by have:=(List.getElem?_eq_some_iff.1 hq).1;simpa [Go.madeCells] using this
      have hdiv:q / P.cellsOf e < N:=Nat.div_lt_of_lt_mul (by rw [Nat.mul_comm];exact hql)
      have hmod:q % P.cellsOf e < P.cellsOf e:=Nat.mod_lt _ hpos
      obtain ⟨v',h1,h2⟩:=hcell (q / P.cellsOf e) (q % P.cellsOf e) row row[q % P.cellsOf e] (by rw [List.getElem?_replicate,if_pos hdiv]) (List.getElem?_eq_getElem (by omega))
      have hqe:q / P.cellsOf e*P.cellsOf e+q % P.cellsOf e=q:=by rw [Nat.mul_comm];exact Nat.div_add_mod q _
      rw [hqe,hq] at h1
      cases h1
      exact h2.atomic
     have hk:Keeps w ok (w.alloc (.cells (Go.madeCells zv.cells (N*P.cellsOf e)) e)) ok:=⟨fun b hb=>Below.heap_alloc w _ b (iq.okw b hb),fun _ h=>h⟩
     have hll:bQ (.lst (List.replicate N row))=N:=by simp [bQ]
     rw [hll]
     let npl:Pl:=⟨some (w.heap.size,0),N,P.cellsOf e⟩
     refine ⟨[.arr .rw (P.cellsOf e) (.lst (List.replicate N row))],[],h,rfl,rfl,fI.value (by rw [hex];exact eU hrun) ⟨ok,fun q=>if q=h.length then some npl else mu q,?_⟩⟩
     refine Grow.fresh (pl:=npl) rfl rfl iq.okw ?_ hn ?_
     ·have:=pL (mu':=fun q=>if q=h.length then some npl else mu q) (md:= .rw) (base:=0) (ea w (.cells (Go.madeCells zv.cells (N*P.cellsOf e)) e)) hall (hrows.later hk) (fun q hq=>by simp) (by rw [hesl];simp [Go.madeCells])
      rw [hesl] at this
      exact this
     ·refine .buf _ _ (some ⟨w.heap.size,0,none⟩) N npl (by simp) rfl ⟨Nat.le_refl _,.inr ⟨w.heap.size,0,rfl,by simp⟩⟩ fun b base hb=> ?_
      cases hb
      exact ⟨_,e,_,ea w _,by simp [npl,Go.madeCells]⟩
    ·cases hz
   ·cases hz
  ·cases hrow
 ·cases hrow
theorem QR {e:List IV} {b:UInt8} (h:DA e=some b):e=[.int .u8 (b.toNat:Int)]:=by
 unfold DA at h
 split at h
 ·rename_i n
  split at h
  ·rename_i hb
   cases h
   have:((UInt8.ofNat n.toNat).toNat:Int)=n:=by
    rw [UInt8.toNat_ofNat']
    omega
   rw [this]
  ·cases h
 ·cases h
theorem aaj {s d e:TypeId} {x:Operand} (hop:o.op= .convert s d x) (hs:P.underlying s=some (.slice e)) (hd:P.underlying d=some .string) (he:P.underlying e=some (.int .u8)) (iq:InvQ w ok mu h) (rx:RP w ok mu (ev fr x) (a.eval x)) {y z:IV} (hy:lR h (ev fr x)=some y) (hz:xn y=some z):
  aq P o a w ok mu h (.imm z) h:=by
 have hex:execOp a.eval o=(do pure (Next.value (<-convert s d (a.eval x)))):=by simp [execOp,hop]
 unfold xn at hz
 split at hz
 ·rename_i es
  obtain ⟨l,hm,rfl⟩:=Option.map_eq_some_iff.1 hz
  obtain ⟨hll,hg⟩:=ed hm
  have hall: ∀e'∈es,e'.length=1:=fun e' he'=>by
   obtain ⟨i,hi⟩:=ni he'
   obtain ⟨b,_,hb⟩:=hg i e' hi
   rw [QR hb];rfl
  obtain ⟨A,cap,vs,hv,hrows,hcells⟩:=nG iq rx hy (sz:=1) (by decide) hall
  rw [hv] at hex
  have hrun:(convert s d (.slice A es.length cap)).run P w= .ok (.string ⟨l.toArray⟩) w:=by
   cases A with
   | none=>
     have h0:es.length=0:=by
      rcases Nat.eq_zero_or_pos es.length with h0 | h0
      ·exact h0
      ·obtain ⟨ad,h1,_⟩:=hcells h0;cases h1
     have hl0:l=[]:=List.length_eq_zero_iff.1 (by omega)
     subst hl0
     rw [Go.run_convert_bytes_nil (w:=w) s e hs he _ _ d hd]
     rfl
   | some ad=>
     have hbytes:=Go.run_convert_bytes_back (P:=P) w s d e ad cap l hs he hd (fun j hj=>by
      have hje:j < es.length:=by omega
      obtain ⟨b,h1,h2⟩:=hg j es[j] (List.getElem?_eq_getElem hje)
      have hlj:l[j]? =some l[j]:=List.getElem?_eq_getElem hj
      rw [hlj] at h1;cases h1
      obtain ⟨ad',h3,h4⟩:=hcells (by omega)
      cases h3
      have h5:=QR h2
      obtain ⟨v,h6,h7⟩:=hrows.2.2 j 0 es[j] (.int .u8 (l[j].toNat:Int)) (List.getElem?_eq_getElem hje) (by rw [h5];rfl)
      cases h7
      have:=h4 (j*1+0) _ h6
      simpa using this)
     rw [<-hll];exact hbytes
  exact aq.val (s:=convert s d (.slice A es.length cap)) (by rw [hex]) hrun (.imm (.str _))
 ·cases hz
end
end Go.AM
namespace Go.AM
open Go.RowKit
section
variable {P:Program} {Γ:FuncId->Option FSig} {C:IV->List Nat->List (List IV)->Option (List IV)} {R S:Type}
theorem Co {x:IV} {t e:Unit->Option R} (f:R->Option S):(af x t e).bind f=af x (fun u=>(t u).bind f) (fun u=>(e u).bind f):=by
 unfold af;split<;>rfl
theorem RZ {s:FSig} {h:List Ob} {ps:List PV} (k:PV->List Ob->Option R) (f:R->Option S):(aX s h ps k).bind f=aX s h ps fun p h=>(k p h).bind f:=by
 unfold aX
 repeat' split
 all_goals first | exact Inl.nat .. | simp [Option.bind_assoc]
theorem Inl.run_bind (J:Inl) {ps:List PV} {h:List Ob} (k:PV->List Ob->Option R) (f:R->Option S):(J.run R ps h k).bind f=J.run S ps h fun p h=>(k p h).bind f:=J.nat ..
theorem U3 {t:TypeId} {a:PV} {h:List Ob} (k:PV->List Ob->Option R) (f:R->Option S):(loadT P t a h k).bind f=loadT P t a h fun p h=>(k p h).bind f:=by
 unfold loadT
 repeat' split
 all_goals simp [Option.bind_assoc]
theorem S8 {t:TypeId} {a v:PV} {h:List Ob} (k:PV->List Ob->Option R) (f:R->Option S):(storeT P t a v h k).bind f=storeT P t a v h fun p h=>(k p h).bind f:=by
 unfold storeT
 repeat' split
 all_goals simp [Option.bind_assoc]
theorem Va {b:Builtin} {t0 t1:TypeId} {ps:List PV} {h:List Ob} (k:PV->List Ob->Option R) (f:R->Option S):(lr P b t0 t1 ps h k).bind f=lr P b t0 t1 ps h fun p h=>(k p h).bind f:=by
 unfold lr
 repeat' split
 all_goals simp [Option.bind_assoc]
set_option maxHeartbeats 1000000 in
theorem vR {o:Oper} {st:St} (k:PV->List Ob->Option R) (f:R->Option S):(eC P Γ C o st k).bind f=eC P Γ C o st fun p h=>(k p h).bind f:=by
 unfold eC
 repeat' split
 all_goals simp only [Option.bind_assoc,Co,RZ,U3,S8,Va,Inl.run_bind,Option.bind_none]
def b5 (P:Program) (Γ:FuncId->Option FSig) (C:IV->List Nat->List (List IV)->Option (List IV)) (o:Oper) (st:St):Option (PV×List Ob):=eC P Γ C o st fun p h=>some (p,h)
theorem SH {o:Oper} {st:St} (k:PV->List Ob->Option R):eC P Γ C o st k=(b5 P Γ C o st).bind fun x=>k x.1 x.2:=by
 rw [b5,vR];rfl
end
section
variable {P:Program} {Γ:FuncId->Option FSig} {C:IV->List Nat->List (List IV)->Option (List IV)} {w0:World} {ok0:O0} {o:Oper} {a:Act} {w:World} {ok:Nat->Prop} {mu:Mu} {h:List Ob} {fr:List PV} {p:PV} {h':List Ob}
theorem Ac {s:FSig} (hm:s.mode= .pure) {g:FuncId} {xs:List Operand} {cap:List Value} {W:World} {OK:Nat->Prop} (hrun:(execOp a.eval o).run P w= .ok (.enter g (xs.map a.eval++cap).toArray) w) (iq:InvQ w ok mu h) (hf:Fr w ok mu fr a.tmps) (hp:PureAt P g cap s.res s.fn W OK) (hk:Keeps W OK w ok)
  (hsc:s.scalar=true->cap=[]/\(∀w ok,PureAt P g [] s.res s.fn w ok)/\ ∀as r,s.fn as=some r-> ∀x∈r,x.scalar=true) (hs:aX s h (xs.map (ev fr)) (fun p h=>some (p,h))=some (p,h')):aq P o a w ok mu h p h':=by
 unfold aX at hs
 rw [hm] at hs
 simp only at hs
 split at hs
 ·rename_i as h1 has hl
  obtain ⟨r,hr,he⟩:=Option.bind_eq_some_iff.1 hs
  cases he
  have hrel:=gu iq hf has
  by_cases hb:s.scalar=true
  ·obtain ⟨rfl,hp2,hall⟩:=hsc hb
   simp only [Xn,hb,if_true,Option.some.injEq] at hl
   subst hl
   exact VQ hrun iq hp2 hrel hr (hall as r hr)
  ·simp only [Xn,hb] at hl
   exact WI hrun iq hp ⟨hk.block,fun b hb=> .inl (hk.more b hb)⟩ hrel hr hl
 ·cases hs
theorem Vm {s:FSig} (hm:s.mode= .own) {g:FuncId} {xs:List Operand} (hrun:(execOp a.eval o).run P w= .ok (.enter g (xs.map a.eval).toArray) w) (iq:InvQ w ok mu h) (hf:Fr w ok mu fr a.tmps) (hg:ah P g s) (hn:h'.length≠h.length->mu h.length=none)
  (hs:aX s h (xs.map (ev fr)) (fun p h=>some (p,h))=some (p,h')):aq P o a w ok mu h p h':=by
 unfold aX at hs
 rw [hm] at hs
 simp only at hs
 split at hs
 ·rename_i as has hl
  obtain ⟨r,hr,he⟩:=Option.bind_eq_some_iff.1 hs
  cases he
  have hrel:=gu iq hf has
  have hnil:(xs.map (ev fr)).flatMap (fu h)=[]:=by simpa using hl
  rw [hnil] at hrel
  have hok: ∀b,fX ok mu [] b->ok b:=fun b hb=>by
   rcases hb with hb | ⟨q,hq,_⟩
   ·exact hb
   ·simp at hq
  have hrel':bh w ok as (xs.map a.eval):=⟨hrel.1,fun i c v h1 h2=>(hrel.2 i c v h1 h2).more hok⟩
  exact aaV (fz:=[]) hrun hm hg iq (hn (by simp)) hrel' hr
 ·cases hs
theorem Qi {s:FSig} (hm:s.mode= .fresh) {g:FuncId} {xs:List Operand} (hrun:(execOp a.eval o).run P w= .ok (.enter g (xs.map a.eval).toArray) w) (iq:InvQ w ok mu h) (hf:Fr w ok mu fr a.tmps) (hg:ah P g s) (hn:h'.length≠h.length->mu h.length=none)
  (hs:aX s h (xs.map (ev fr)) (fun p h=>some (p,h))=some (p,h')):aq P o a w ok mu h p h':=by
 unfold aX at hs
 rw [hm] at hs
 simp only at hs
 split at hs
 ·rename_i as has
  obtain ⟨r,hr,he⟩:=Option.bind_eq_some_iff.1 hs
  cases he
  exact XW hrun hm hg iq (hn (by simp)) (gu iq hf has) hr
 ·cases hs
theorem Tp {s:FSig} {n:Nat} (hm:s.mode= .look n) {g:FuncId} {xs:List Operand} (hrun:(execOp a.eval o).run P w= .ok (.enter g (xs.map a.eval).toArray) w) (iq:InvQ w ok mu h) (hf:Fr w ok mu fr a.tmps) (hg:ah P g s)
  (hs:aX s h (xs.map (ev fr)) (fun p h=>some (p,h))=some (p,h')):aq P o a w ok mu h p h':=by
 unfold aX at hs
 rw [hm] at hs
 simp only at hs
 split at hs
 ·rename_i q rest hps
  cases xs with
  | nil=>simp at hps
  | cons x xs=>
    simp only [List.map_cons,List.cons.injEq] at hps
    obtain ⟨hx,rfl⟩:=hps
    split at hs
    ·rename_i vs as ht has hfz
     obtain ⟨r,hr,he⟩:=Option.bind_eq_some_iff.1 hs
     cases he
     exact YZ hrun hm hg iq hf hx ht has hfz hr
    ·cases hs
 ·cases hs
theorem ZZ {t:TypeId} {x:Operand} (hop:o.op= .load t x) (hf:Fr w ok mu fr a.tmps) (iq:InvQ w ok mu h) (hs:loadT P t (ev fr x) h (fun p h=>some (p,h))=some (p,h')):aq P o a w ok mu h p h':=by
 have rx:=hf.ev x
 unfold loadT at hs
 split at hs
 ·rename_i hag
  split at hs
  ·rename_i q j hx
   split at hs
   ·rename_i md cs hg
    split at hs
    ·rename_i hj
     cases hs
     exact GD hop rx iq hx hg (.inl ⟨hag,hj,rfl⟩)
    ·cases hs
   ·cases hs
  ·rename_i q i j hx
   split at hs
   ·rename_i md sz y hg
    obtain ⟨r,hr,he⟩:=Option.bind_eq_some_iff.1 hs
    cases he
    exact Ed hop rx iq hx hg (.inl ⟨hag,r,hr,rfl⟩)
   ·cases hs
  ·rename_i y i j hx
   obtain ⟨r,hr,he⟩:=Option.bind_eq_some_iff.1 hs
   cases he
   exact DI hop rx hx (.inl ⟨hag,r,hr,rfl⟩)
  ·rename_i y j hx
   obtain ⟨r,hr,he⟩:=Option.bind_eq_some_iff.1 hs
   cases he
   exact qN hop rx (.inl hx) (.inl ⟨hag,r,hr,rfl⟩)
  ·rename_i y hx
   obtain ⟨r,hr,he⟩:=Option.bind_eq_some_iff.1 hs
   cases he
   exact qN hop rx (.inr ⟨hx,rfl⟩) (.inl ⟨hag,r,hr,rfl⟩)
  ·cases hs
 ·split at hs
  ·rename_i hag
   split at hs
   ·rename_i q j hx
    split at hs
    ·rename_i md cs hg
     split at hs
     ·rename_i hj
      cases hs
      exact GD hop rx iq hx hg (.inr ⟨hag,hj⟩)
     ·cases hs
    ·cases hs
   ·rename_i q i j hx
    split at hs
    ·rename_i md sz y hg
     obtain ⟨r,hr,he⟩:=Option.bind_eq_some_iff.1 hs
     cases he
     exact Ed hop rx iq hx hg (.inr ⟨hag,r,hr,rfl⟩)
    ·cases hs
   ·rename_i y i j hx
    obtain ⟨r,hr,he⟩:=Option.bind_eq_some_iff.1 hs
    cases he
    exact DI hop rx hx (.inr ⟨hag,r,hr,rfl⟩)
   ·rename_i y j hx
    obtain ⟨r,hr,he⟩:=Option.bind_eq_some_iff.1 hs
    cases he
    exact qN hop rx (.inl hx) (.inr ⟨hag,r,hr,rfl⟩)
   ·rename_i y hx
    obtain ⟨r,hr,he⟩:=Option.bind_eq_some_iff.1 hs
    cases he
    exact qN hop rx (.inr ⟨hx,rfl⟩) (.inr ⟨hag,r,hr,rfl⟩)
   ·cases hs
  ·cases hs
end
section
variable {P:Program} {Γ:FuncId->Option FSig} {C:IV->List Nat->List (List IV)->Option (List IV)} {w0:World} {ok0:O0} {o:Oper} {a:Act} {w:World} {ok:Nat->Prop} {mu:Mu} {h:List Ob} {fr:List PV} {p:PV} {h':List Ob}
theorem aq.after {l:List Nat} {h1:List Ob} (hl:qK h l=some h1) (q:aq P o a w (fX ok mu l) mu h1 p h'):aq P o a w ok mu h p h':=by
 obtain ⟨news,fz,h2,h3,h4,hd⟩:=q
 have hcat: ∀(l l':List Nat) (h h1:List Ob),qK h l=some h1->qK h (l++l')=qK h1 l':=by
  intro l
  induction l with
  | nil=>intro l' h h1 hh;simp only [qK,Option.some.injEq] at hh;subst hh;rfl
  | cons x l ih=>
    intro l' h h1 hh
    simp only [List.cons_append,qK] at hh ⊢
    cases hx:YJ h x with
    | none=>simp [hx] at hh
    | some hy=>simp only [hx,Option.bind_some] at hh ⊢;exact ih l' hy h1 hh
 have hlen:=(dx hl).len
 refine ⟨news,l++fz,h2,by rw [hcat l fz h h1 hl];exact h3,h4,hd.mono fun v w' hg=> ?_⟩
 obtain ⟨ok',mu',g⟩:=hg
 refine ⟨ok',mu',g.below,fun b hb=>g.more b (.inl hb),fun b hb=> ?_,?_,?_,g.rp⟩
 ·rcases g.new b hb with h5 | h5 | ⟨q,hq,r⟩
  ·rcases h5 with h5 | ⟨q,hq,r⟩
   ·exact .inl h5
   ·exact .inr (.inr ⟨q,List.mem_append_left _ hq,r⟩)
  ·exact .inr (.inl h5)
  ·exact .inr (.inr ⟨q,List.mem_append_right _ hq,r⟩)
 ·rw [<-hlen];exact g.same
 ·rw [<-hlen];exact g.obs
theorem InvQ.frozen (iq:InvQ w ok mu h) {l:List Nat} {h1:List Ob} (hl:qK h l=some h1):InvQ w (fX ok mu l) mu h1:=by
 refine ⟨fun b hb=> ?_,fun o pl hm=> ?_,iq.loc⟩
 ·rcases hb with hb | ⟨q,_,pl,base,h1,h2⟩
  ·exact iq.okw b hb
  ·exact iq.loc q pl b base h1 h2
 ·have hlater:Later w ok mu w (fX ok mu l) mu:=⟨⟨fun _ _=>rfl,fun _ h=> .inl h⟩,fun _ _ h=>h,.refl _⟩
  exact (dx hl).ob ((iq.ob o pl hm).later hlater (fun _ _ _=>rfl))
def wW:Builtin->Bool
 | .append=>true
 | .copy=>true
 | _=>false
def Xy:Builtin->Bool
 | .append=>true
 | _=>false
theorem Xt (cs:List PV):PA cs= .rw\/PA cs= .lock:=by
 unfold PA
 split
 ·exact .inr rfl
 ·exact .inl rfl
def bN (Γ:FuncId->Option FSig) (o:Oper):Bool:=
 match o.op with
 | .store _ _ _=>false
 | .mapUpdate _ _ _ _=>false
 | .call c=>
   match c.callee with
   | .builtin b=> !wW b
   | .value (.func g)=>match Γ g with | some s=>(match s.mode with | .pure | .own | .fresh | .look _=>true | _=>false) | none=>false
   | _=>false
 | _=>true
theorem Ww {α β:Type} {f:α->β} {l:Array α} {y:β} (h:l.toList.map f=[y]): ∃x,l= #[x]/\f x=y:=by
 obtain ⟨l⟩:=l
 match l,h with
 | [x],h=>exact ⟨x,rfl,by simpa using h⟩
theorem Ty {α β:Type} {f:α->β} {l:Array α} {y z:β} (h:l.toList.map f=[y,z]): ∃x u,l= #[x,u]/\f x=y/\f u=z:=by
 obtain ⟨l⟩:=l
 match l,h with
 | [x,u],h=>exact ⟨x,u,rfl,by simpa using h⟩
theorem U1 {c:Call} {b:Builtin} (hop:o.op= .call c) (hc:c.callee= .builtin b) (hsz:c.argTypes.size=c.args.size) (hq:(!wW b)=true) (hf:Fr w ok mu fr a.tmps) (iq:InvQ w ok mu h)
  (hs:lr P b (c.argTypes.getD 0 0) (c.argTypes.getD 1 0) (c.args.toList.map (ev fr)) h (fun p h=>some (p,h))=some (p,h')):aq P o a w ok mu h p h':=by
 unfold lr at hs
 split at hs
 ·rename_i x hps
  obtain ⟨x',hargs,hx⟩:=Ww hps
  have hat':(c.argTypes[0]?).isSome=true:=by
   have:0 < c.argTypes.size:=by rw [hsz,hargs];exact Nat.one_pos
   simp [this]
  have rx:=hf.ev x'
  rw [hx] at rx
  cases rx with
  | imm rx=>
    split at hs
    ·rename_i hb
     obtain ⟨z,hz,he⟩:=Option.bind_eq_some_iff.1 hs
     cases he
     unfold qQ at hz
     split at hz
     ·cases hz
      cases hv:a.eval x'<;>rw [hv] at rx<;>cases rx
      exact PM hop hc hargs rfl hat' (.inr ⟨hb,_,hv,rfl⟩) rfl
     ·cases hz
    ·split at hs
     ·rename_i hb
      obtain ⟨z,hz,he⟩:=Option.bind_eq_some_iff.1 hs
      cases he
      unfold bq at hz
      split at hz
      ·cases hz
       cases hv:a.eval x'<;>rw [hv] at rx<;>cases rx
       exact PM hop hc hargs rfl hat' (.inl ⟨hb,_,_,hv⟩) rfl
      ·cases hz
     ·split at hs
      ·rename_i hb
       obtain ⟨z,hz,he⟩:=Option.bind_eq_some_iff.1 hs
       cases he
       exact Q4 hop hc hargs hat' hb iq hf (by rw [hx];rfl) hz
      ·cases hs
 ·rename_i q hps
  obtain ⟨x',hargs,hx⟩:=Ww hps
  have hat':(c.argTypes[0]?).isSome=true:=by
   have:0 < c.argTypes.size:=by rw [hsz,hargs];exact Nat.one_pos
   simp [this]
  split at hs
  ·rename_i hb
   split at hs
   ·rename_i md sz y hg
    obtain ⟨z,hz,he⟩:=Option.bind_eq_some_iff.1 hs
    cases he
    exact Q4 hop hc hargs hat' hb iq hf (by rw [hx];simp [xv,hg]) hz
   ·cases hs
  ·cases hs
 ·rename_i q n hps
  obtain ⟨x',hargs,hx⟩:=Ww hps
  have hat':(c.argTypes[0]?).isSome=true:=by
   have:0 < c.argTypes.size:=by rw [hsz,hargs];exact Nat.one_pos
   simp [this]
  have rx:=hf.ev x'
  rw [hx] at rx
  split at hs
  ·rename_i hb
   cases hs
   cases hv:a.eval x'<;>rw [hv] at rx<;>cases rx
   exact PM hop hc hargs rfl hat' (.inl ⟨hb,_,_,hv⟩) rfl
  ·cases hs
 ·rename_i q l u hps
  obtain ⟨x',hargs,hx⟩:=Ww hps
  have hat':(c.argTypes[0]?).isSome=true:=by
   have:0 < c.argTypes.size:=by rw [hsz,hargs];exact Nat.one_pos
   simp [this]
  have rx:=hf.ev x'
  rw [hx] at rx
  split at hs
  ·rename_i hb
   cases hs
   cases hv:a.eval x'<;>rw [hv] at rx<;>cases rx
   exact PM hop hc hargs rfl hat' (.inl ⟨hb,_,_,hv⟩) rfl
  ·cases hs
 ·rename_i hps
  obtain ⟨x',hargs,hx⟩:=Ww hps
  have hat':(c.argTypes[0]?).isSome=true:=by
   have:0 < c.argTypes.size:=by rw [hsz,hargs];exact Nat.one_pos
   simp [this]
  have rx:=hf.ev x'
  rw [hx] at rx
  split at hs
  ·rename_i hb
   cases hs
   cases hv:a.eval x'<;>rw [hv] at rx<;>cases rx
   exact PM hop hc hargs rfl hat' (.inl ⟨hb,_,_,hv⟩) rfl
  ·cases hs
 ·cases hq
 ·cases hq
 ·cases hq
 ·cases hq
 ·cases hq
 ·rename_i x y hps
  obtain ⟨x',y',hargs,hx,hy⟩:=Ty hps
  obtain ⟨z,hz,he⟩:=Option.bind_eq_some_iff.1 hs
  cases he
  exact aa4 hop hc hargs (hf.ev x') (hf.ev y') hx hy hz
 ·rename_i x y hps
  obtain ⟨x',y',hargs,hx,hy⟩:=Ty hps
  obtain ⟨z,hz,he⟩:=Option.bind_eq_some_iff.1 hs
  cases he
  exact ach hop hc hargs (hf.ev x') (hf.ev y') hx hy hz
 ·cases hs
theorem YG (hC:COK P C) {c:Call} {f:Operand} (hop:o.op= .call c) (hc:c.callee= .value f) {x:IV} {v:Value} {OK:Nat->Prop} (rx:RV w OK x v) (hv:a.eval f=v) (hk: ∀b,OK b->ok b) (iq:InvQ w ok mu h) (hf:Fr w ok mu fr a.tmps)
  (hs:aX ⟨.pure,false,iP P o.type,0,C x (iP P o.type)⟩ h (c.args.toList.map (ev fr)) (fun p h=>some (p,h))=some (p,h')):aq P o a w ok mu h p h':=by
 have hsome: ∃as r,C x (iP P o.type) as=some r:=by
  unfold aX at hs
  simp only at hs
  split at hs
  ·rename_i as h1 _ _
   obtain ⟨r,hr,_⟩:=Option.bind_eq_some_iff.1 hs
   exact ⟨as,r,hr⟩
  ·cases hs
 obtain ⟨g,cv,hv2,hen,hp⟩:=hC.clo x (iP P o.type) w OK v rx hsome
 have hrun:=tQ (P:=P) (w:=w) (a:=a) hop hc (by rw [hv,hv2]) hen
 exact Ac rfl hrun iq hf hp ⟨fun _ _=>rfl,hk⟩ (fun hb=>by cases hb) hs
theorem abg (hC:COK P C) {c:Call} {f:Operand} {name:String} (hop:o.op= .call c) (hc:c.callee= .invoke f name) (harg:c.args.isEmpty=true) {x:IV} (rx:RV w ok x (a.eval f)) (iq:InvQ w ok mu h) (hf:Fr w ok mu fr a.tmps)
  (hs:aX ⟨.pure,false,iP P o.type,0,C (IL name x) (iP P o.type)⟩ h [] (fun p h=>some (p,h))=some (p,h')):aq P o a w ok mu h p h':=by
 have hargs:c.args= #[]:=by simpa using harg
 have hsome: ∃as r,C (IL name x) (iP P o.type) as=some r:=by
  unfold aX at hs
  simp only at hs
  split at hs
  ·rename_i as h1 _ _
   obtain ⟨r,hr,_⟩:=Option.bind_eq_some_iff.1 hs
   exact ⟨as,r,hr⟩
  ·cases hs
 have hbad:C .nilp (iP P o.type)=fun _=>none:=by
  funext as
  cases hr:C .nilp (iP P o.type) as with
  | none=>rfl
  | some r=>
    obtain ⟨g,cv,hv,_⟩:=hC.clo .nilp (iP P o.type) w ok (.pointer none) .nilp ⟨as,r,hr⟩
    cases hv
 by_cases hx: ∃t b y,x= .ifc t b y
 ·obtain ⟨t,b,y,rfl⟩:=hx
  generalize hv:a.eval f=v at rx
  simp only [IL] at hs hsome
  obtain ⟨u,rfl,hy⟩: ∃u,v= .iface t (ifV b u)/\RV w ok y u:=by
   cases rx with
   | ifc _ _ u hy=>exact ⟨u,rfl,hy⟩
   | ifc1 _ _ u hy=>exact ⟨u,rfl,hy⟩
  obtain ⟨g,hen,hp⟩:=hC.ifc t name b y (iP P o.type) w ok u hy hsome
  have hrun:(execOp a.eval o).run P w= .ok (.enter g (([]:List Operand).map a.eval++[ifV b u]).toArray) w:=by
   have:execOp a.eval o=callMethod (.iface t (ifV b u)) name #[]:=by
    simp [execOp,hop,resolve,hc,hargs,hv,invoke]
   rw [this,hen]
   rfl
  exact Ac (xs:=[]) rfl hrun iq hf hp (.refl _ _) (fun hb=>by cases hb) hs
 ·have hn:IL name x= .nilp:=by
   unfold IL
   split
   ·exact absurd ⟨_,_,_,rfl⟩ hx
   ·rfl
  rw [hn,hbad] at hsome
  obtain ⟨as,r,hr⟩:=hsome
  cases hr
theorem QY {t:TypeId} (h:Fw P t=true) (x:Value) (w:World):(Instr.makeInterface t x).run P w= .ok (.iface t x) w:=by
 unfold Fw at h
 cases hu:P.underlying t with
 | none=>rw [hu] at h;cases h
 | some d=>
   rw [hu] at h
   have hr:(underlying t).run P w= .ok d w:=run_underlying hu w
   unfold Instr.makeInterface
   rw [Sem.run_bind,hr]
   cases d<;>first | rfl | cases h
theorem LP {t:TypeId} {x:Operand} (hop:o.op= .makeInterface t x) (ht:Fw P t=true) (iq:InvQ w ok mu h) {l:List Nat} {h1:List Ob} (hfz:qK h l=some h1) {z:IV} (hy:RV w (fX ok mu l) z (.iface t (a.eval x))):aq P o a w ok mu h (.imm z) h1:=by
 refine ⟨[],l,h1,hfz,by simp,fI.value (w':=w) (v:= .iface t (a.eval x)) ?_ ⟨fX ok mu l,mu,⟨.refl _ _,fun b hb=> .inl hb,fun b hb=>Or.elim hb .inl (fun hb=> .inr (.inr hb)),fun _ _=>rfl,.inl ⟨rfl,rfl⟩,.imm hy⟩⟩⟩
 have he:execOp a.eval o=(do pure (Next.value (<-Instr.makeInterface t (a.eval x)))):=by simp [execOp,hop]
 rw [he]
 exact eU (QY ht _ _)
set_option maxHeartbeats 1000000 in
theorem Oj {st:St} (hΓ:ak P Γ) (hC:COK P C) (hs:b5 P Γ C o st=some (p,h')) (hq:bN Γ o=true) (hf:Fr w ok mu st.fr a.tmps) (iq:InvQ w ok mu st.h) (hn:h'.length≠st.h.length->mu st.h.length=none):aq P o a w ok mu st.h p h':=by
 unfold b5 eC at hs
 split at hs
 ·rename_i x hop;cases hs;exact W9 (.inl hop) hf
 ·rename_i x hop;cases hs;exact W9 (.inr hop) hf
 ·rename_i c x y hop
  split at hs
  ·rename_i v hv
   unfold af at hs
   split at hs
   ·cases hs;simpa using VJ hop hf hv
   ·cases hs;simpa using VJ hop hf hv
   ·cases hs
  ·cases hs
 ·rename_i t hop
  split at hs
  ·rename_i hse;cases hs;exact VP hop hse iq (hn (by simp))
  ·split at hs
   ·rename_i z hz;cases hs;exact XD hop hz iq (hn (by simp))
   ·cases hs
 ·rename_i t x hop
  split at hs
  ·rename_i hw;cases hs;exact abw _ (Xt _) hop hf hw iq (hn (by simp))
  ·cases hs
 ·rename_i t parts hop
  split at hs
  ·rename_i fs z hu hz
   split at hs
   ·rename_i hi
    split at hs
    ·rename_i cs hc;cases hs;exact Ij hop hf hu hz hi hc
    ·cases hs
   ·cases hs
  ·rename_i n e z hu hz
   split at hs
   ·rename_i hi
    split at hs
    ·rename_i cs hc;cases hs;exact Kc hop hf hu hz hi hc
    ·cases hs
   ·cases hs
  ·cases hs
 ·rename_i t len parts hop
  split at hs
  ·rename_i e hu
   split at hs
   ·rename_i hl0
    subst hl0
    split at hs
    ·rename_i hp
     cases hs
     have:parts= #[]:=by simpa using hp.1
     subst this
     exact Ph hop hu iq hp.2
    ·cases hs
   rename_i hl0
   split at hs
   ·rename_i hbs
    split at hs
    ·rename_i cs hcs
     split at hs
     ·rename_i es h1 hes hfz
      split at hs
      ·rename_i hb
       cases hs
       have hl1:=(dx hfz).len
       unfold abh at hbs
       refine hl1▸OJ hop hu iq (hn (by simp [hl1])) hf (by rw [if_neg hl0];exact hcs) (fun h0=> ?_) hes hfz hb.1 hb.2.1 hb.2.2 (fun h0=> ?_)
       ·rw [if_pos h0] at hbs;simpa using hbs
       ·rw [if_neg h0] at hbs
        obtain ⟨i,z,h1,h2,h3,h4,_⟩:=e8 hbs
        exact ⟨z,by simp [gh,h1,h2],h3⟩
      ·cases hs
     ·cases hs
    ·cases hs
   ·cases hs
  ·cases hs
 ·rename_i t hop
  split at hs
  ·cases hs;exact Vi hop iq (hn (by simp))
  ·cases hs
 ·rename_i t m x v hop;simp [bN,hop] at hq
 ·rename_i t m x c hop
  split at hs
  ·rename_i kt et y key ht hy hx
   split at hs
   ·rename_i kq z hk hz
    obtain ⟨r,hr,he⟩:=Option.bind_eq_some_iff.1 hs
    cases he
    obtain ⟨hk2,hr2⟩:=Qp hr
    exact Wb hop ht iq hf hy hx (Uf hk hk2) hz hr2
   ·cases hs
  ·cases hs
 ·rename_i t x hop;exact ZZ hop hf iq hs
 ·rename_i t x y hop;simp [bN,hop] at hq
 ·rename_i x hop
  split at hs
  ·rename_i y hx
   obtain ⟨z,hz,he⟩:=Option.bind_eq_some_iff.1 hs
   cases he
   exact OW hop (hf.ev x) hx hz
  ·rename_i q j hx;cases hs;rw [<-hx];exact p6 hop (hf.ev x) (.inl ⟨_,_,hx⟩)
  ·rename_i q i j hx;cases hs;rw [<-hx];exact p6 hop (hf.ev x) (.inr (.inl ⟨_,_,_,hx⟩))
  ·rename_i y i j hx;cases hs;rw [<-hx];exact p6 hop (hf.ev x) (.inr (.inr (.inl ⟨_,_,_,hx⟩)))
  ·rename_i y j hx;cases hs;rw [<-hx];exact p6 hop (hf.ev x) (.inr (.inr (.inr (.inl ⟨_,_,hx⟩))))
  ·rename_i f c hx;cases hs;rw [<-hx];exact p6 hop (hf.ev x) (.inr (.inr (.inr (.inr ⟨_,_,hx⟩))))
  ·cases hs
 ·rename_i op t x y t' hop
  split at hs
  ·rename_i u v hx hy
   split at hs
   ·rename_i hb
    obtain ⟨z,hz,he⟩:=Option.bind_eq_some_iff.1 hs
    cases he
    exact Zj hop hb hx hy (hf.ev x) (hf.ev y) hz
   split at hs
   ·rename_i hb
    obtain ⟨z,hz,he⟩:=Option.bind_eq_some_iff.1 hs
    cases he
    exact XK hop hb hx hy (hf.ev x) (hf.ev y) hz
   ·obtain ⟨z,hz,he⟩:=Option.bind_eq_some_iff.1 hs
    cases he
    exact aa2 hop hx hy (hf.ev x) (hf.ev y) hz
  ·rename_i q j hx hy
   split at hs
   ·rename_i hb
    obtain ⟨z,hz,he⟩:=Option.bind_eq_some_iff.1 hs
    cases he
    exact Yh hop hb hx hy (hf.ev x) (hf.ev y) hz
   ·cases hs
  ·rename_i as bs hx hy
   split at hs
   ·rename_i hfl
    split at hs
    ·rename_i us vs hu hv
     obtain ⟨z,hz,he⟩:=Option.bind_eq_some_iff.1 hs
     cases he
     exact aaW hop hfl (hf.ev x) (hf.ev y) hx hy hu hv hz
    ·cases hs
   ·cases hs
  ·cases hs
 ·rename_i op t x hop
  split at hs
  ·rename_i u hx
   obtain ⟨z,hz,he⟩:=Option.bind_eq_some_iff.1 hs
   cases he
   exact adV hop hx (hf.ev x) hz
  ·cases hs
 ·rename_i s d x hop
  split at hs
  ·rename_i u k kd hx h1 h2
   obtain ⟨z,hz,he⟩:=Option.bind_eq_some_iff.1 hs
   cases he
   exact Zm hop h1 h2 hx (hf.ev x) hz
  ·rename_i u k kd hx h1 h2
   obtain ⟨z,hz,he⟩:=Option.bind_eq_some_iff.1 hs
   cases he
   exact aad hop h1 h2 hx (hf.ev x) hz
  ·rename_i u k kd hx h1 h2
   obtain ⟨z,hz,he⟩:=Option.bind_eq_some_iff.1 hs
   cases he
   exact ZT hop h1 h2 hx (hf.ev x) hz
  ·rename_i u e hx h1 h2
   split at hs
   ·rename_i h3
    obtain ⟨z,hz,he⟩:=Option.bind_eq_some_iff.1 hs
    cases he
    exact Z5 hop h1 h2 h3 iq hx (hf.ev x) hz
   ·cases hs
  ·rename_i p0 e h1 h2
   split at hs
   ·rename_i y h3 hy
    obtain ⟨z,hz,he⟩:=Option.bind_eq_some_iff.1 hs
    cases he
    exact aaj hop h1 h2 h3 iq (hf.ev x) hy hz
   ·cases hs
  ·cases hs
 ·rename_i t l c hop
  split at hs
  ·rename_i e x y hu hl hc
   split at hs
   ·rename_i row hrow
    obtain ⟨z,hz,he⟩:=Option.bind_eq_some_iff.1 hs
    cases he
    exact OV hop hu iq (hn (by simp)) hf hl hc hrow hz
   ·cases hs
  ·cases hs
 ·rename_i fn first caps hop
  split at hs
  ·rename_i hfi
   cases hs
   have:first= #[]:=by simpa using hfi
   subst this
   exact Tt hop hf
  ·cases hs
 ·rename_i t x lo hi hop
  split at hs
  ·rename_i u l r hx hl hr
   split at hs
   ·rename_i hb
    obtain ⟨z,hz,he⟩:=Option.bind_eq_some_iff.1 hs
    cases he
    exact Pm hop hb hf hx hl hr hz
   ·split at hs
    ·rename_i hb
     obtain ⟨z,hz,he⟩:=Option.bind_eq_some_iff.1 hs
     cases he
     exact RS hop hb.1 hb.2 hf hx hl hr hz
    ·cases hs
  ·rename_i q n l r hx hl hr
   split at hs
   ·rename_i hb
    split at hs
    ·rename_i md sz x0 hg
     split at hs
     ·rename_i hsz
      obtain ⟨z,hz,he⟩:=Option.bind_eq_some_iff.1 hs
      cases he
      exact Rh hop hb.1 hb.2 iq.sized hf hx hg hsz hl hr hz
     ·cases hs
    ·cases hs
   ·cases hs
  ·rename_i q l0 u0 l r hx hl hr
   split at hs
   ·rename_i hb
    split at hs
    ·rename_i md sz x0 hg
     split at hs
     ·rename_i hsz
      obtain ⟨z,hz,he⟩:=Option.bind_eq_some_iff.1 hs
      cases he
      exact RY hop hb.1 hb.2 iq.sized hf hx hg hsz hl hr hz
     ·cases hs
    ·cases hs
   ·cases hs
  ·cases hs
 ·rename_i t x hi mx hop
  split at hs
  ·rename_i q n u v hx hu1 hv1
   split at hs
   ·rename_i hb
    split at hs
    ·rename_i md sz x0 hg
     split at hs
     ·obtain ⟨z,hz,he⟩:=Option.bind_eq_some_iff.1 hs
      cases he
      obtain ⟨y,hy,hz2⟩:=Option.bind_eq_some_iff.1 hz
      split at hz2
      ·rename_i hz3
       cases hz2
       exact Wi hop hb.1 hb.2 hf hx hg hu1 hv1 hy hz3
      ·cases hz2
     ·cases hs
    ·cases hs
   ·cases hs
  ·cases hs
 ·rename_i s x f hop
  split at hs
  ·rename_i fd hfd
   split at hs
   ·cases hs
   ·rename_i hne
    split at hs
    ·rename_i q j hx;cases hs;exact nx hop (hf.ev x) hfd hne (.inl ⟨_,_,hx,rfl⟩)
    ·rename_i q i j hx;cases hs;exact nx hop (hf.ev x) hfd hne (.inr (.inl ⟨_,_,_,hx,rfl⟩))
    ·rename_i y i j hx;cases hs;exact nx hop (hf.ev x) hfd hne (.inr (.inr (.inl ⟨_,_,_,hx,rfl⟩)))
    ·rename_i y j hx;cases hs;exact nx hop (hf.ev x) hfd hne (.inr (.inr (.inr (.inl ⟨_,_,hx,rfl⟩))))
    ·rename_i y hx
     obtain ⟨z,hz,he⟩:=Option.bind_eq_some_iff.1 hs
     cases he
     unfold gY at hz
     split at hz
     ·cases hz;exact nx hop (hf.ev x) hfd hne (.inr (.inr (.inr (.inr ⟨_,_,hx,rfl⟩))))
     ·cases hz
    ·cases hs
  ·cases hs
 ·rename_i t x f hop
  split at hs
  ·rename_i fd cs hfd hx
   split at hs
   ·rename_i hag;cases hs;exact TB hop (hf.ev x) hfd hx (.inl ⟨hag,rfl⟩)
   ·split at hs
    ·rename_i hag
     split at hs
     ·rename_i c hc;cases hs;exact TB hop (hf.ev x) hfd hx (.inr ⟨hag,hc⟩)
     ·cases hs
    ·cases hs
  ·cases hs
 ·rename_i t x i hop
  split at hs
  ·rename_i u n hx hi
   split at hs
   ·rename_i hb
    obtain ⟨z,hz,he⟩:=Option.bind_eq_some_iff.1 hs
    cases he
    exact Eo hop hb (hf.ev x) (hf.ev i) hx hi hz
   ·cases hs
  ·rename_i q n y hx hi
   split at hs
   ·rename_i hb
    split at hs
    ·rename_i md sz x0 hg
     split at hs
     ·rename_i hsz
      obtain ⟨z,hz,he⟩:=Option.bind_eq_some_iff.1 hs
      cases he
      exact Ez hop hb.1 hb.2 iq.sized (hf.ev x) (hf.ev i) hx hi hg hsz hz
     ·cases hs
    ·cases hs
   ·cases hs
  ·rename_i q l u n hx hi
   split at hs
   ·rename_i hb
    split at hs
    ·rename_i md sz x0 hg
     split at hs
     ·rename_i hsz
      obtain ⟨z,hz,he⟩:=Option.bind_eq_some_iff.1 hs
      cases he
      exact Ey hop hb.1 hb.2 iq.sized (hf.ev x) (hf.ev i) hx hi hg hsz hz
     ·cases hs
    ·cases hs
   ·cases hs
  ·rename_i q j n hx hi
   split at hs
   ·rename_i len e hu
    split at hs
    ·rename_i hb
     obtain ⟨z,hz,he⟩:=Option.bind_eq_some_iff.1 hs
     cases he
     exact ES hop hu hb (hf.ev x) (hf.ev i) hx hi hz
    ·cases hs
   ·cases hs
  ·cases hs
 ·rename_i t x i hop
  split at hs
  ·rename_i u n hx hi
   split at hs
   ·rename_i hb
    obtain ⟨z,hz,he⟩:=Option.bind_eq_some_iff.1 hs
    cases he
    exact RB hop hb (hf.ev x) (hf.ev i) hx hi hz
   ·cases hs
  ·rename_i cs n hx hi
   split at hs
   ·rename_i len e hu hl
    obtain ⟨m,hm,he⟩:=Option.bind_eq_some_iff.1 hs
    split at he
    ·rename_i hc
     split at he
     ·rename_i hag
      cases he
      exact Dh hop hu (hf.ev x) (hf.ev i) hx hi hc.1 hc.2 hm (.inl ⟨hag,rfl⟩)
     ·rename_i hag
      split at he
      ·rename_i hsc
       obtain ⟨p',hp,he⟩:=Option.bind_eq_some_iff.1 he
       cases he
       exact Dh hop hu (hf.ev x) (hf.ev i) hx hi hc.1 hc.2 hm (.inr ⟨by simpa using hag,hsc.1,hsc.2,hp⟩)
      ·cases he
    ·cases he
   ·rename_i len e l hu hl
    obtain ⟨m,hm,he⟩:=Option.bind_eq_some_iff.1 hs
    split at he
    ·rename_i hlen
     split at he
     ·rename_i hag;cases he;exact DW hop hu (hf.ev x) (hf.ev i) hx hl hi hlen hm (.inl ⟨hag,rfl⟩)
     ·split at he
      ·rename_i hag;cases he;exact DW hop hu (hf.ev x) (hf.ev i) hx hl hi hlen hm (.inr ⟨hag.1,hag.2,rfl⟩)
      ·cases he
    ·cases he
   ·cases hs
  ·cases hs
 ·rename_i x i hop
  split at hs
  ·rename_i cs hx
   split at hs
   ·rename_i c hc;cases hs;exact Vk hop (hf.ev x) hx hc
   ·cases hs
  ·cases hs
 ·rename_i c hop
  split at hs
  ·rename_i b hcal
   split at hs
   ·cases hs
   ·rename_i hsz
    exact U1 hop hcal (by simpa using hsz) (by unfold bN at hq;rw [hop] at hq;simp only [hcal] at hq;exact hq) hf iq hs
  ·rename_i g hcal
   split at hs
   ·rename_i s hg
    obtain ⟨hen,hsig⟩:=hΓ g s hg
    have hrun:=lg (P:=P) (w:=w) (a:=a) hop hcal hen
    have hq':(match s.mode with | .pure | .own | .fresh | .look _=>true | _=>false)=true:=by
     unfold bN at hq
     rw [hop] at hq
     simp only [hcal,hg] at hq
     exact hq
    cases hm:s.mode with
    | pure=>
      have h2:=hsig
      unfold ah at h2
      rw [hm] at h2
      exact Ac hm (cap:=[]) (by simpa using hrun) iq hf (h2.1 w ok) (.refl _ _) (fun hb=>⟨rfl,h2.1,h2.2 hb⟩) hs
    | own=>exact Vm hm hrun iq hf hsig hn hs
    | fresh=>exact Qi hm hrun iq hf hsig hn hs
    | look n=>exact Tp hm hrun iq hf hsig hs
    | cons=>rw [hm] at hq';cases hq'
    | inpl=>rw [hm] at hq';cases hq'
    | obj n=>rw [hm] at hq';cases hq'
    | inl J=>rw [hm] at hq';cases hq'
    | mko n=>rw [hm] at hq';cases hq'
   ·cases hs
  ·rename_i f hnf hcal
   exfalso
   have:bN Γ o=false:=by
    unfold bN
    rw [hop]
    simp only [hcal]
    cases f with
    | func g=>exact absurd rfl (hnf g)
    | _=>rfl
   rw [this] at hq;cases hq
  ·rename_i recv name hcal
   exfalso
   have:bN Γ o=false:=by
    unfold bN
    rw [hop]
    simp only [hcal]
   rw [this] at hq;cases hq
 ·rename_i t x hop
  split at hs
  ·rename_i ht
   split at hs
   ·rename_i p' hx
    split at hs
    ·rename_i y h1 hy hfz
     cases hs
     refine LP hop ht iq hfz ?_
     have r:=hf.ev x
     rw [hx] at r
     generalize a.eval x=v at r
     cases r with
     | agg _ vs hlen hrel=>
       obtain ⟨u,rfl⟩: ∃u,vs= #[u]:=by
        match vs,hlen with
        | ⟨[u]⟩,_=>exact ⟨u,rfl⟩
       exact .ifc1 t y u (l7 iq 5 _ _ _ hy (hrel 0 p' u rfl rfl))
    ·cases hs
   ·rename_i q hx
    split at hs
    ·split at hs
     ·rename_i y h1 hy hfz
      cases hs
      exact LP hop ht iq hfz (.ifc t y _ (l7 iq 5 _ _ _ hy (hf.ev x)))
     ·cases hs
    ·cases hs
  ·cases hs
 ·cases hs
end
end Go.AM
namespace Go.AM
open Go.RowKit
section
variable {P:Program} {Γ:FuncId->Option FSig} {C:IV->List Nat->List (List IV)->Option (List IV)} {w0:World} {ok0:O0} {o:Oper} {a:Act} {w:World} {ok:Nat->Prop} {mu:Mu} {h:List Ob} {fr:List PV} {p:PV} {h':List Ob}
theorem Xs {c:Call} (hop:o.op= .call c) (hc:c.callee= .builtin .append) (hsz:c.argTypes.size=c.args.size) (i:Inv w0 ok0 w ok mu h) (hfresh: ∀q,h.length<=q->mu q=none) (hf:Fr w ok mu fr a.tmps)
  (hs:lr P .append (c.argTypes.getD 0 0) (c.argTypes.getD 1 0) (c.args.toList.map (ev fr)) h (fun p h=>some (p,h))=some (p,h')):pX P w0 ok0 o a w ok mu p h':=by
 unfold lr at hs
 split at hs<;>first | (rename_i hb _;cases hb;done) | skip
 ·rename_i y hb hps
  obtain ⟨x',y',hargs,hx,hy⟩:=Ty hps
  have hat:c.argTypes.size=2:=by rw [hsz,hargs];rfl
  split at hs
  ·rename_i hc3
   split at hs
   ·rename_i ys hys
    obtain ⟨z,hz,he⟩:=Option.bind_eq_some_iff.1 hs
    cases he
    exact (AU hop hc hargs hat hc3.1 hc3.2.1 hc3.2.2 i.q (hfresh _ (Nat.le_refl _)) (hf.ev x') (hf.ev y') hx (by rw [hy];exact hys) hz).m i hfresh
   ·cases hs
  ·cases hs
 ·rename_i q n y hb hps
  obtain ⟨x',y',hargs,hx,hy⟩:=Ty hps
  have hat:c.argTypes.size=2:=by rw [hsz,hargs];rfl
  split at hs
  ·rename_i hc3
   split at hs
   ·rename_i sz x0 ys hg hys
    split at hs
    ·rename_i hsz2
     obtain ⟨z,hz,he⟩:=Option.bind_eq_some_iff.1 hs
     cases he
     subst hsz2
     have rx:=hf.ev x'
     rw [hx] at rx
     have hwhole:ze x0 0 n=x0:=by
      generalize a.eval x'=v at rx
      cases rx with
      | buf q n A cap pl hm hn hh hcc=>
        have hob:=i.ob q pl hm
        rw [hg] at hob
        obtain ⟨_,es,rfl,hlen,_⟩:=hob.arrC hcc
        simp [ze,hn,<-hlen]
     exact PG hop hc hargs hat hc3.1 hc3.2.1 hc3.2.2 i hfresh (hf.ev x') (hf.ev y') hg (l:=0) (u:=n) (.inr ⟨n,hx,rfl,rfl⟩) rfl (by rw [hy];exact hys) (by rw [hwhole];exact hz)
    ·cases hs
   ·cases hs
  ·cases hs
 ·rename_i q l u y hb hps
  obtain ⟨x',y',hargs,hx,hy⟩:=Ty hps
  have hat:c.argTypes.size=2:=by rw [hsz,hargs];rfl
  split at hs
  ·rename_i hc3
   split at hs
   ·rename_i sz x0 ys hg hys
    split at hs
    ·rename_i hsz2
     obtain ⟨z,hz,he⟩:=Option.bind_eq_some_iff.1 hs
     cases he
     subst hsz2
     exact PG hop hc hargs hat hc3.1 hc3.2.1 hc3.2.2 i hfresh (hf.ev x') (hf.ev y') hg (l:=l) (u:=u) (.inl ⟨hx,trivial⟩) rfl (by rw [hy];exact hys) hz
    ·cases hs
   ·cases hs
  ·cases hs
 ·cases hs
theorem Zh {c:Call} (hop:o.op= .call c) (hc:c.callee= .builtin .copy) (hsz:c.argTypes.size=c.args.size) (i:Inv w0 ok0 w ok mu h) (hfresh: ∀q,h.length<=q->mu q=none) (hf:Fr w ok mu fr a.tmps)
  (hs:lr P .copy (c.argTypes.getD 0 0) (c.argTypes.getD 1 0) (c.args.toList.map (ev fr)) h (fun p h=>some (p,h))=some (p,h')):pX P w0 ok0 o a w ok mu p h':=by
 unfold lr at hs
 split at hs<;>first | (rename_i hb _;cases hb;done) | skip
 ·rename_i q n y hb hps
  obtain ⟨x',y',hargs,hx,hy⟩:=Ty hps
  have hat:c.argTypes.size=2:=by rw [hsz,hargs];rfl
  split at hs
  ·rename_i hc3
   split at hs
   ·rename_i sz x0 ys hg hys
    split at hs
    ·rename_i hsz2
     obtain ⟨z,hz,he⟩:=Option.bind_eq_some_iff.1 hs
     cases he
     exact Wm hop hc hargs hat hc3.1 hc3.2.1 hc3.2.2 i hfresh (hf.ev x') (hf.ev y') hg hsz2 (l:=0) (u:=n) (.inr ⟨n,hx,rfl,rfl⟩) (by rw [hy];exact hys) hz
    ·cases hs
   ·cases hs
  ·cases hs
 ·rename_i q l u y hb hps
  obtain ⟨x',y',hargs,hx,hy⟩:=Ty hps
  have hat:c.argTypes.size=2:=by rw [hsz,hargs];rfl
  split at hs
  ·rename_i hc3
   split at hs
   ·rename_i sz x0 ys hg hys
    split at hs
    ·rename_i hsz2
     obtain ⟨z,hz,he⟩:=Option.bind_eq_some_iff.1 hs
     cases he
     exact Wm hop hc hargs hat hc3.1 hc3.2.1 hc3.2.2 i hfresh (hf.ev x') (hf.ev y') hg hsz2 (l:=l) (u:=u) (.inl hx) (by rw [hy];exact hys) hz
    ·cases hs
   ·cases hs
  ·cases hs
 ·cases hs
theorem Yp {t:TypeId} {x y:Operand} (hop:o.op= .store t x y) (i:Inv w0 ok0 w ok mu h) (hfresh: ∀q,h.length<=q->mu q=none) (hf:Fr w ok mu fr a.tmps)
  (hs:storeT P t (ev fr x) (ev fr y) h (fun p h=>some (p,h))=some (p,h')):pX P w0 ok0 o a w ok mu p h':=by
 unfold storeT at hs
 split at hs
 ·rename_i hc
  obtain ⟨hwh,hlen,hat,hpos⟩:=hc
  split at hs
  ·rename_i q j hx
   split at hs
   ·rename_i cs hg
    split at hs
    ·rename_i hroom
     cases hs
     exact Pq _ hop i hfresh (hf.ev x) (hf.ev y) hx hg hwh hlen hat hpos hroom
    ·cases hs
   ·cases hs
  ·rename_i q k j hx
   split at hs
   ·rename_i sz x0 hg
    split at hs
    ·rename_i vs hvs
     obtain ⟨z,hz,he⟩:=Option.bind_eq_some_iff.1 hs
     cases he
     exact Pg hop i hfresh (hf.ev x) (hf.ev y) hx hg hwh hlen hpos hvs hz
    ·cases hs
   ·cases hs
  ·cases hs
 ·cases hs
theorem ZS {c:Call} {g:FuncId} {s:FSig} (hop:o.op= .call c) (hc:c.callee= .value (.func g)) (hen:Enters P g) (hsig:ah P g s) (hmode:s.mode= .cons) (i:Inv w0 ok0 w ok mu h) (hfresh: ∀q,h.length<=q->mu q=none) (hf:Fr w ok mu fr a.tmps)
  (hs:aX s h (c.args.toList.map (ev fr)) (fun p h=>some (p,h))=some (p,h')):pX P w0 ok0 o a w ok mu p h':=by
 have hrun:=lg (P:=P) (w:=w) (a:=a) hop hc hen
 unfold aX at hs
 rw [hmode] at hs
 simp only at hs
 generalize hl:c.args.toList=l at hs hrun
 split at hs
 ·rename_i q n rest hps
  cases l with
  | nil=>simp at hps
  | cons x xs=>
    simp only [List.map_cons,List.cons.injEq] at hps
    obtain ⟨hx,rfl⟩:=hps
    split at hs
    ·rename_i sz x0 hg
     split at hs
     ·rename_i as h1 has hfz
      split at hs
      ·rename_i sz1 x1 hg1
       split at hs
       ·rename_i hsz
        obtain ⟨r,hr,he⟩:=Option.bind_eq_some_iff.1 hs
        cases he
        exact ZX hrun hmode hsig i hfresh hf hx hg has hfz hg1 hsz hr
       ·cases hs
      ·cases hs
     ·cases hs
    ·cases hs
 ·cases hs
theorem Zz {c:Call} {g:FuncId} {s:FSig} (hop:o.op= .call c) (hc:c.callee= .value (.func g)) (hen:Enters P g) (hsig:ah P g s) (hmode:s.mode= .inpl) (i:Inv w0 ok0 w ok mu h) (hfresh: ∀q,h.length<=q->mu q=none) (hf:Fr w ok mu fr a.tmps)
  (hs:aX s h (c.args.toList.map (ev fr)) (fun p h=>some (p,h))=some (p,h')):pX P w0 ok0 o a w ok mu p h':=by
 have hrun:=lg (P:=P) (w:=w) (a:=a) hop hc hen
 unfold aX at hs
 rw [hmode] at hs
 simp only at hs
 generalize hl:c.args.toList=l at hs hrun
 split at hs
 ·rename_i q n rest hps
  cases l with
  | nil=>simp at hps
  | cons x xs=>
    simp only [List.map_cons,List.cons.injEq] at hps
    obtain ⟨hx,rfl⟩:=hps
    split at hs
    ·rename_i sz x0 hg
     split at hs
     ·rename_i as has hfz
      split at hs
      ·rename_i hsz
       obtain ⟨r,hr,he⟩:=Option.bind_eq_some_iff.1 hs
       cases he
       exact YQ hrun hmode hsig i hfresh hf hx hg has hfz hsz hr
      ·cases hs
     ·cases hs
    ·cases hs
 ·cases hs
theorem Xi {c:Call} {g:FuncId} {s:FSig} {n:List Sc} (hrun:(execOp a.eval o).run P w= .ok (.enter g (c.args.toList.map a.eval).toArray) w) (hsig:ah P g s) (hmode:s.mode= .obj n) (i:Inv w0 ok0 w ok mu h) (hfresh: ∀q,h.length<=q->mu q=none) (hf:Fr w ok mu fr a.tmps)
  (hs:aX s h (c.args.toList.map (ev fr)) (fun p h=>some (p,h))=some (p,h')):pX P w0 ok0 o a w ok mu p h':=by
 unfold aX at hs
 rw [hmode] at hs
 simp only at hs
 generalize hl:c.args.toList=l at hs hrun
 split at hs
 ·rename_i q j rest hps
  cases l with
  | nil=>simp at hps
  | cons x xs=>
    simp only [List.map_cons,List.cons.injEq] at hps
    obtain ⟨hx,rfl⟩:=hps
    split at hs
    ·rename_i p as ht has hfz
     obtain ⟨r,hr,he⟩:=Option.bind_eq_some_iff.1 hs
     cases he
     exact abt hrun hmode hsig i hfresh hf hx ht has hfz hr
    ·cases hs
 ·rename_i rest hps
  split at hs
  ·rename_i as has hfz
   obtain ⟨r,hr,he⟩:=Option.bind_eq_some_iff.1 hs
   cases he
   rw [<-hps] at has hfz
   have hrel:=gu i.q hf has
   rw [List.isEmpty_iff.1 hfz] at hrel
   have hg0: ∃as',as=[IV.nilp]::as':=by
    unfold iU at has
    split at has
    ·rw [hps] at has
     obtain ⟨h1,h2⟩:=ed has
     obtain ⟨c0,h3,h4⟩:=h2 0 (.imm .nilp) rfl
     have:c0=[.nilp]:=by simpa [B1,PV.cells,mH] using h4.symm
     subst this
     cases as with
     | nil=>cases h3
     | cons y ys=>simp at h3;exact ⟨ys,by rw [h3]⟩
    ·cases has
   obtain ⟨as',rfl⟩:=hg0
   have hsig2:=hsig
   unfold ah at hsig2
   rw [hmode] at hsig2
   exact (WI (fz:=[]) (cap:=[]) (args:=l.map a.eval) (by simpa using hrun) i.q (hsig2.2 w (fX ok mu [])) (.refl _ _) hrel (r:=r) hr rfl).m i hfresh
  ·cases hs
 ·cases hs
theorem abE {c:Call} {g:FuncId} {s:FSig} {n:List Sc} (hop:o.op= .call c) (hc:c.callee= .value (.func g)) (hen:Enters P g) (hsig:ah P g s) (hmode:s.mode= .obj n) (i:Inv w0 ok0 w ok mu h) (hfresh: ∀q,h.length<=q->mu q=none) (hf:Fr w ok mu fr a.tmps)
  (hs:aX s h (c.args.toList.map (ev fr)) (fun p h=>some (p,h))=some (p,h')):pX P w0 ok0 o a w ok mu p h':=Xi (lg (P:=P) (w:=w) (a:=a) hop hc hen) hsig hmode i hfresh hf hs
theorem X1 (hΓ:ak P Γ) {c:Call} {f:Operand} (hop:o.op= .call c) (hc:c.callee= .value f) {fn:Fn} {caps:List PV} (rx:RP w ok mu (.clo fn caps) (a.eval f)) {s:FSig} (hk:My Γ fn caps=some s) (i:Inv w0 ok0 w ok mu h) (hfresh: ∀q,h.length<=q->mu q=none) (hf:Fr w ok mu fr a.tmps)
  (hs:aX s h (c.args.toList.map (ev fr)) (fun p h=>some (p,h))=some (p,h')):pX P w0 ok0 o a w ok mu p h':=by
 unfold My at hk
 split at hk
 ·rename_i g
  split at hk
  ·rename_i s' hg
   obtain ⟨hen,hsig⟩:=hΓ g s' hg
   generalize hv:a.eval f=v at rx
   cases rx with
   | clo _ _ cv hlen _=>
     have hcv:cv= #[]:=by
      apply Array.eq_empty_of_size_eq_zero
      simpa using hlen.symm
     subst hcv
     have hrun:=tQ (P:=P) (w:=w) (a:=a) hop hc hv hen
     simp only [List.append_nil] at hrun
     split at hk
     ·rename_i shp hm
      cases hk
      exact Xi hrun hsig hm i hfresh hf hs
     ·cases hk
  ·cases hk
 ·cases hk
theorem aa0 {c:Call} {g:FuncId} {s:FSig} {n:List Sc} (hop:o.op= .call c) (hc:c.callee= .value (.func g)) (hen:Enters P g) (hsig:ah P g s) (hmode:s.mode= .mko n) (i:Inv w0 ok0 w ok mu h) (hfresh: ∀q,h.length<=q->mu q=none) (hf:Fr w ok mu fr a.tmps)
  (hs:aX s h (c.args.toList.map (ev fr)) (fun p h=>some (p,h))=some (p,h')):pX P w0 ok0 o a w ok mu p h':=by
 have hrun:=lg (P:=P) (w:=w) (a:=a) hop hc hen
 unfold aX at hs
 rw [hmode] at hs
 simp only at hs
 split at hs
 ·rename_i as h1 has hfz
  obtain ⟨r,hr,he⟩:=Option.bind_eq_some_iff.1 hs
  cases he
  exact abk hrun hmode hsig i hfresh hf has hfz hr
 ·cases hs
theorem aaE {g:FuncId} {s:FSig} {J:Inl} (hsig:ah P g s) (hmode:s.mode= .inl J) {xs:List Operand} (hrun:(execOp a.eval o).run P w= .ok (.enter g (xs.map a.eval).toArray) w) (i:Inv w0 ok0 w ok mu h) (hfresh: ∀q,h.length<=q->mu q=none) (hf:Fr w ok mu fr a.tmps)
  (hs:J.run (PV×List Ob) (xs.map (ev fr)) h (fun p h=>some (p,h))=some (p,h')):pX P w0 ok0 o a w ok mu p h':=by
 unfold ah at hsig
 rw [hmode] at hsig
 refine fI.enter hrun (Calls.mono (hsig w0 ok0 w ok mu h _ (xs.map a.eval) p h' i hfresh (by simp) (fun k p v h1 h2=> ?_) hs) fun e w' he=>he)
 rw [List.getElem?_map] at h1 h2
 cases hk:xs[k]? with
 | none=>rw [hk] at h1;cases h1
 | some x=>rw [hk] at h1 h2;cases h1;cases h2;exact hf.ev x
theorem ZJ (hΓ:ak P Γ) {c:Call} {f:Operand} (hop:o.op= .call c) (hc:c.callee= .value f) {fn:Fn} {caps:List PV} {J:Inl} (hJ:TV Γ fn=some J) (rx:RP w ok mu (.clo fn caps) (a.eval f)) (i:Inv w0 ok0 w ok mu h) (hfresh: ∀q,h.length<=q->mu q=none) (hf:Fr w ok mu fr a.tmps)
  (hs:J.run (PV×List Ob) (c.args.toList.map (ev fr)++caps) h (fun p h=>some (p,h))=some (p,h')):pX P w0 ok0 o a w ok mu p h':=by
 unfold TV at hJ
 split at hJ
 ·rename_i g
  split at hJ
  ·rename_i s hg
   split at hJ
   ·rename_i J' hmode
    cases hJ
    obtain ⟨hen,hsig⟩:=hΓ g s hg
    generalize hv:a.eval f=v at rx
    cases rx with
    | clo _ _ cv hlen hrel=>
      have hrun:=tQ (P:=P) (w:=w) (a:=a) hop hc hv hen
      unfold ah at hsig
      rw [hmode] at hsig
      refine fI.enter hrun (Calls.mono (hsig w0 ok0 w ok mu h _ (c.args.toList.map a.eval++cv.toList) p h' i hfresh (by simp [hlen]) (fun k p v h1 h2=> ?_) hs) fun e w' he=>he)
      by_cases hk:k < c.args.toList.length
      ·rw [List.getElem?_append_left (by simpa using hk),List.getElem?_map] at h1 h2
       cases hx:c.args.toList[k]? with
       | none=>rw [hx] at h1;cases h1
       | some x=>rw [hx] at h1 h2;cases h1;cases h2;exact hf.ev x
      ·rw [List.getElem?_append_right (by simpa using hk),List.length_map] at h1 h2
       exact hrel _ p v h1 (by simpa using h2)
   ·cases hJ
  ·cases hJ
 ·cases hJ
theorem SQ {st:St} (hΓ:ak P Γ) (hC:COK P C) (hs:b5 P Γ C o st=some (p,h')) (hf:Fr w ok mu st.fr a.tmps) (i:Inv w0 ok0 w ok mu st.h) (hfresh: ∀q,st.h.length<=q->mu q=none):pX P w0 ok0 o a w ok mu p h':=by
 by_cases hq:bN Γ o=true
 ·exact (Oj hΓ hC hs hq hf i.q fun _=>hfresh _ (Nat.le_refl _)).m i hfresh
 ·unfold bN at hq
  split at hq
  ·rename_i t x y hop
   unfold b5 eC at hs
   rw [hop] at hs
   exact Yp hop i hfresh hf hs
  ·rename_i t m x v hop
   unfold b5 eC at hs
   rw [hop] at hs
   simp only at hs
   split at hs
   ·rename_i kt et q key val ht hm hx hv
    split at hs
    ·rename_i sz y hg
     split at hs
     ·rename_i kq hk
      obtain ⟨z,hz,he⟩:=Option.bind_eq_some_iff.1 hs
      cases he
      obtain ⟨hk2,hz2⟩:=PH hz
      exact Rl hop ht i hfresh hf hm hg hx hv (Uf hk hk2) hz2
     ·cases hs
    ·cases hs
   ·cases hs
  ·rename_i c hop
   unfold b5 eC at hs
   rw [hop] at hs
   simp only at hs
   split at hq
   ·rename_i b hcal
    cases b<;>simp [wW] at hq
    ·rw [hcal] at hs
     simp only at hs
     split at hs
     ·cases hs
     ·rename_i hsz
      exact Xs hop hcal (by simpa using hsz) i hfresh hf hs
    ·rw [hcal] at hs
     simp only at hs
     split at hs
     ·cases hs
     ·rename_i hsz
      exact Zh hop hcal (by simpa using hsz) i hfresh hf hs
   ·rename_i g hcal
    rw [hcal] at hs
    simp only at hs
    split at hs
    ·rename_i s hg
     obtain ⟨hen,hsig⟩:=hΓ g s hg
     rw [hg] at hq
     simp only at hq
     cases hm:s.mode with
     | pure=>rw [hm] at hq;simp at hq
     | own=>rw [hm] at hq;simp at hq
     | fresh=>rw [hm] at hq;simp at hq
     | look n=>rw [hm] at hq;simp at hq
     | inl J=>exact aaE hsig hm (lg (P:=P) (w:=w) (a:=a) hop hcal hen) i hfresh hf (by unfold aX at hs;rw [hm] at hs;exact hs)
     | cons=>exact ZS hop hcal hen hsig hm i hfresh hf hs
     | inpl=>exact Zz hop hcal hen hsig hm i hfresh hf hs
     | obj n=>exact abE hop hcal hen hsig hm i hfresh hf hs
     | mko n=>exact aa0 hop hcal hen hsig hm i hfresh hf hs
    ·cases hs
   ·rename_i hnf hnb
    split at hs
    ·rename_i b hcal;exact absurd hcal (hnf b)
    ·rename_i g hcal;exact absurd hcal (hnb g)
    ·rename_i f hnf2 hcal
     have iq:=i.q
     split at hs
     ·rename_i x hx
      have rx:=hf.ev f
      rw [hx] at rx
      cases rx with
      | imm rx=>
        exact (YG hC hop hcal rx rfl (fun b hb=>hb) iq hf hs).m i hfresh
     ·rename_i fn caps hx
      have rx:=hf.ev f
      rw [hx] at rx
      split at hs
      ·rename_i J hJ
       exact ZJ hΓ hop hcal hJ rx i hfresh hf hs
      ·split at hs
       ·rename_i s hkn
        exact X1 hΓ hop hcal rx hkn i hfresh hf hs
       split at hs
       ·rename_i x h1 hiv hfz
        have hrv:=l7 iq 5 _ _ _ hiv rx
        have iq':=iq.frozen hfz
        have hlater:Later w ok mu w (fX ok mu (refs st.h 5 (.clo fn caps))) mu:=⟨⟨fun _ _=>rfl,fun _ h=> .inl h⟩,fun _ _ h=>h,.refl _⟩
        exact (aq.after hfz (YG hC hop hcal hrv rfl (fun b hb=>hb) iq' (hf.later hlater) hs)).m i hfresh
       ·cases hs
     ·cases hs
    ·rename_i recv name hcal
     split at hs
     ·rename_i harg
      split at hs
      ·rename_i x hx
       have rx:=hf.ev recv
       rw [hx] at rx
       cases rx with
       | imm rx=>exact (abg hC hop hcal harg rx i.q hf hs).m i hfresh
      ·cases hs
     ·cases hs
  ·simp at hq
end
theorem Stay.refl (h:List Ob):Stay h h:=⟨Nat.le_refl _,fun _ _ _=>rfl⟩
theorem Stay.trans {h h1 h2:List Ob} (a:Stay h h1) (b:Stay h1 h2):Stay h h2:=
 ⟨Nat.le_trans a.len b.len,fun o ho hr=>by
   have e:=a.keep o ho hr
   rw [b.keep o (Nat.lt_of_lt_of_le ho a.len) (by rw [e];exact hr),e]⟩
theorem Stay.append (h news:List Ob):Stay h (h++news):=⟨by simp,fun o ho _=>by rw [an,if_pos ho]⟩
theorem Stay.set {h:List Ob} {q:Nat} (hr:isRw (getOb h q)=true) (ob:Ob):Stay h (h.set q ob):=
 ⟨by simp,fun o ho h1=>by
   rw [aR,if_neg]
   rintro ⟨rfl,_⟩
   rw [hr] at h1;cases h1⟩
theorem Xa {h h1:List Ob} {q:Nat} (hf:YJ h q=some h1):Stay h h1:=by
 unfold YJ at hf
 split at hf
 ·rename_i cs hg;cases hf;exact .set (by rw [hg];rfl) _
 ·rename_i n x hg;cases hf;exact .set (by rw [hg];rfl) _
 ·cases hf;exact .refl _
 ·cases hf;exact .refl _
 ·cases hf
theorem gP: ∀{l:List Nat} {h h1:List Ob},qK h l=some h1->Stay h h1
 | [],h,h1,hf=>by simp only [qK,Option.some.injEq] at hf;subst hf;exact .refl _
 | q::l,h,h1,hf=>by
   simp only [qK] at hf
   obtain ⟨h2,h3,h4⟩:=Option.bind_eq_some_iff.1 hf
   exact (Xa h3).trans (gP h4)
theorem kQ {R:Type} {x:IV} {t e:Unit->Option R} {r:R} (h:af x t e=some r):(x= .bool true/\t ()=some r)\/(x= .bool false/\e ()=some r):=by
 unfold af at h
 split at h
 ·exact .inl ⟨rfl,h⟩
 ·exact .inr ⟨rfl,h⟩
 ·cases h
section
variable {P:Program} {Γ:FuncId->Option FSig} {C:IV->List Nat->List (List IV)->Option (List IV)} {h h':List Ob} {p:PV}
theorem A9 {s:FSig} {ps:List PV} (hs:aX s h ps (fun p h=>some (p,h))=some (p,h')):Stay h h':=by
 unfold aX at hs
 split at hs
 ·split at hs
  ·rename_i as h1 _ hl
   obtain ⟨r,_,he⟩:=Option.bind_eq_some_iff.1 hs
   cases he
   unfold Xn at hl
   split at hl
   ·cases hl;exact .refl _
   ·exact gP hl
  ·cases hs
 ·split at hs
  ·obtain ⟨r,_,he⟩:=Option.bind_eq_some_iff.1 hs
   cases he
   exact .append _ _
  ·cases hs
 ·split at hs
  ·rename_i q n rest
   split at hs
   ·split at hs
    ·rename_i as h1 _ hfz
     split at hs
     ·rename_i sz x hg
      split at hs
      ·obtain ⟨r,_,he⟩:=Option.bind_eq_some_iff.1 hs
       cases he
       exact (gP hfz).trans ((Stay.set (by rw [hg];rfl) _).trans (.append _ _))
      ·cases hs
     ·cases hs
    ·cases hs
   ·cases hs
  ·cases hs
 ·split at hs
  ·split at hs
   ·rename_i sz x hg
    split at hs
    ·split at hs
     ·obtain ⟨r,_,he⟩:=Option.bind_eq_some_iff.1 hs
      cases he
      exact .set (by rw [hg];rfl) _
     ·cases hs
    ·cases hs
   ·cases hs
  ·cases hs
 ·split at hs
  ·split at hs
   ·rename_i p as ht _ _
    obtain ⟨r,_,he⟩:=Option.bind_eq_some_iff.1 hs
    cases he
    obtain ⟨h1,q,h2,h3⟩:=xF ht
    refine ⟨by simp [dQ],fun k hk hr=> ?_⟩
    have hno:k∉p.2:=fun hin=>by have:=h1 k hin;rw [hr] at this;cases this
    have hqk:q≠k:=fun e=>hno (e▸h3)
    cases h2
    rw [aR,if_neg (fun e=>hqk e.1),an,if_pos (by rw [dQ];exact hk),j8,if_neg hno]
   ·cases hs
  ·split at hs
   ·obtain ⟨r,_,he⟩:=Option.bind_eq_some_iff.1 hs
    cases he
    exact .refl _
   ·cases hs
  ·cases hs
 ·split at hs
  ·obtain ⟨r,_,he⟩:=Option.bind_eq_some_iff.1 hs
   cases he
   exact .append _ _
  ·cases hs
 ·split at hs
  ·split at hs
   ·obtain ⟨r,_,he⟩:=Option.bind_eq_some_iff.1 hs
    cases he
    exact .refl _
   ·cases hs
  ·cases hs
 ·exact Inl.stay _ _ _ _ _ hs
 ·split at hs
  ·rename_i hfz
   obtain ⟨r,_,he⟩:=Option.bind_eq_some_iff.1 hs
   cases he
   exact (gP hfz).trans (Stay.append _ _)
  ·cases hs
theorem S0 {t:TypeId} {a:PV} (hs:loadT P t a h (fun p h=>some (p,h))=some (p,h')):Stay h h':=by
 unfold loadT at hs
 repeat' split at hs
 all_goals first
  | (cases hs;done)
  | (cases hs;exact .refl _)
  | (obtain ⟨r,_,he⟩:=Option.bind_eq_some_iff.1 hs;cases he;exact .refl _)
theorem Qs {t:TypeId} {a v:PV} (hs:storeT P t a v h (fun p h=>some (p,h))=some (p,h')):Stay h h':=by
 unfold storeT at hs
 split at hs
 ·split at hs
  ·split at hs
   ·rename_i cs hg
    split at hs
    ·cases hs;exact .set (by rw [hg];rfl) _
    ·cases hs
   ·cases hs
  ·split at hs
   ·rename_i sz x hg
    split at hs
    ·obtain ⟨r,_,he⟩:=Option.bind_eq_some_iff.1 hs
     cases he
     exact .set (by rw [hg];rfl) _
    ·cases hs
   ·cases hs
  ·cases hs
 ·cases hs
theorem SI {b:Builtin} {t0 t1:TypeId} {ps:List PV} (hs:lr P b t0 t1 ps h (fun p h=>some (p,h))=some (p,h')):Stay h h':=by
 unfold lr at hs
 repeat' split at hs
 all_goals first
  | (cases hs;done)
  | (cases hs;exact .refl _)
  | (obtain ⟨r,_,he⟩:=Option.bind_eq_some_iff.1 hs;cases he;exact .refl _)
  | (obtain ⟨r,_,he⟩:=Option.bind_eq_some_iff.1 hs;cases he;exact .append _ _)
  | (rename_i hg _ _;obtain ⟨r,_,he⟩:=Option.bind_eq_some_iff.1 hs;cases he;exact (Stay.set (by rw [hg];rfl) _).trans (.append _ _))
  | (rename_i hg _ _;obtain ⟨r,_,he⟩:=Option.bind_eq_some_iff.1 hs;cases he;exact Stay.set (by rw [hg];rfl) _)
theorem nf {o:Oper} {st:St} (hs:b5 P Γ C o st=some (p,h')):Stay st.h h':=by
 unfold b5 eC at hs
 repeat' split at hs
 all_goals first
  | (cases hs;done)
  | (obtain ⟨_,_,he⟩:=Option.bind_eq_some_iff.1 hs;cases he;done)
  | (cases hs;exact .refl _)
  | (cases hs;exact .append _ _)
  | exact S0 hs
  | exact Qs hs
  | exact SI hs
  | exact A9 hs
  | exact Inl.stay _ _ _ _ _ hs
  | (rename_i hfz;exact (gP hfz).trans (A9 hs))
  | (obtain ⟨r,_,he⟩:=Option.bind_eq_some_iff.1 hs;cases he;exact .refl _)
  | (obtain ⟨r,_,he⟩:=Option.bind_eq_some_iff.1 hs;cases he;exact .append _ _)
  | (rcases kQ hs with ⟨_,h1⟩ | ⟨_,h1⟩<;>cases h1<;>exact .refl _)
  | (obtain ⟨r,_,he⟩:=Option.bind_eq_some_iff.1 hs;obtain ⟨_,_,he2⟩:=Option.bind_eq_some_iff.1 he;cases he2;exact .refl _)
  | (obtain ⟨r,_,he⟩:=Option.bind_eq_some_iff.1 hs;split at he<;>first | (cases he;done) | skip;split at he<;>first | (cases he;exact .refl _) | skip;split at he<;>first | (cases he;exact .refl _) | (cases he;done))
  | (rename_i hfz;cases hs;exact gP hfz)
  | (rename_i hfz _;cases hs;exact (gP hfz).trans (.append _ _))
  | (rename_i hg _ _ _;obtain ⟨r,_,he⟩:=Option.bind_eq_some_iff.1 hs;cases he;exact .set (by rw [hg];rfl) _)
end
end Go.AM
