/- Contracts by hand: a copy of a slice. -/
import Derived.Test.YtgoenohknokcmaaGreatAc
import Derived.Lib.Overlaps
import Derived.Test.YtgoenohknokcmaaGreatAa
import Derived.Recover
import Derived.ProofKit
import Derived.Deep.Slices
import Derived.Carry
import Derived.OpenShut
import Derived.Test.YtgoenohknokcmaaGreatAb
import Derived.Lib.Builder
import Derived.Lib.AppendStr
import Derived.Lib.UnsafeStr
import Derived.WalkKit
set_option linter.unusedVariables false
set_option linter.unusedSimpArgs false
namespace Go.AM
open Go.RowKit
theorem wpList_append_run {P:Program} (w:World) {ops:Array Oper} {rest:List Oper} {o:Oper} {a:Act} {Q:Exit->Act->World->Prop} (hgd:o.guard=none) (d s:Operand) (t t':TypeId)
  (ho:o.op= .call { callee:= .builtin .append,args:= #[d,s],argTypes:= #[t,t'] }) (v u:Value) (hd:a.eval d=v) (hs:a.eval s=u) {v':Value} {w':World}
  (hr:(Builtin.append_ #[t,t'] o.type #[v,u]).run P w= .ok v' w') (h:wpList P ops Q rest (a.put o.dst v') w'):wpList P ops Q (o::rest) a w:=
 wpList_plain hgd fun K hK=>by
  unfold Oper.wp execOp
  simp only [ho,resolve,invoke,builtin,Sem.run_bind,Sem.run_pure,Result.andThen_ok,List.map_toArray,List.map_cons,List.map_nil,hd,hs,hr]
  exact hK _ _ h
theorem MZ {w:World} {ok:Nat->Prop} (hok: ∀b,ok b->b < w.heap.size) {es:List (List IV)} {v:Value} (r:RV w ok (.lst es) v) {sz:Nat} (hpos:0 < sz) (hall: ∀e∈es,e.length=sz):
  ∃A cap vs,v= .slice A es.length cap/\Rows w ok es sz vs/\(0 < es.length-> ∃ad,A=some ad/\ ∀q u,vs[q]? =some u->w.cell? (ad.add q)=some u):=
 nG (mu:=fun _=>none) (h:=[]) ⟨hok,fun o pl ho=>(by cases ho),fun o pl b base ho=>(by cases ho)⟩ (p:= .imm (.lst es)) (.imm r) rfl hpos hall
theorem Pz {sz bytes:Nat} {x:IV} {r:List IV} (h:p8 sz bytes x=some r): ∃es,x= .lst es/\r=[.lst es]/\es.length*(bytes+1)<=2 ^ 40/\ ∀e∈es,e.length=sz:=by
 unfold p8 at h
 split at h
 ·rename_i es
  split at h
  ·rename_i hc
   cases h
   exact ⟨es,rfl,rfl,hc.1,fun e he=>by simpa using List.all_eq_true.1 hc.2 e he⟩
  ·cases h
 ·cases h
theorem oQ {P:Program} {g:FuncId} {t e:TypeId} {sz bytes:Nat} (h0:P.underlying t=some (.slice e)) (hel:kM P e=true) (hsz:P.cellsOf e=sz) (hby:P.bytesOf e=bytes)
  (hnil: ∀(w:World) (n c:Nat),Calls P g #[.slice none n c] w fun e w'=>e= .returned (.slice none 0 0)/\w'=w)
  (hsome: ∀(w:World) (ad:Addr) (n c:Nat) (v':Value) (w':World),(Builtin.append_ #[t,t] t #[.slice (some ⟨w.heap.size,0,none⟩) 0 0,.slice (some ad) n c]).run P (w.alloc (.cells #[] e))= .ok v' w'->Calls P g #[.slice (some ad) n c] w fun e w''=>e= .returned v'/\w''=w'):
  ah P g ⟨.own,false,[1],sz,fun l=>match l with | [[x0]]=>p8 sz bytes x0 | _=>none⟩:=by
 have hpos:0 < sz:=by
  obtain ⟨_,_,_,_,_,h,_⟩:=e8 hel
  rw [<-hsz];exact h
 unfold ah
 simp only
 intro w ok as args r hok hargs hr
 split at hr
 ·rename_i x
  obtain ⟨es,rfl,rfl,hb,hall⟩:=Pz hr
  obtain ⟨hl,hrel⟩:=hargs
  match args,hl with
  | [v],_=>
    have hv:RV w ok (.lst es) v:=by
     rcases hrel 0 _ v rfl rfl with ⟨y,e1,h1⟩ | ⟨h1,_⟩
     ·cases e1;exact h1
     ·simp at h1
    obtain ⟨A,cap,vs,rfl,hrows,hmem⟩:=MZ hok hv hpos hall
    have empty:es.length=0-> ∀(w':World) (A':Option Addr),OwnVal w' ok sz (nth [.lst es] 0) (.slice A' 0 0) ⟨none,0,sz⟩:=fun h w' A'=>by
     have:es=[]:=List.length_eq_zero_iff.1 h
     subst this
     exact ⟨.inl ⟨by assumption,rfl,[],rfl,rfl,by simp,fun _=>rfl,fun b base hb=>by cases hb⟩,⟨A',0,rfl,⟨Nat.le_refl _,.inl ⟨rfl,rfl⟩⟩,fun b base hb=>by cases hb⟩⟩
    cases A with
    | none=>
      have h1:es.length=0:=by
       rcases Nat.eq_zero_or_pos es.length with h | h
       ·exact h
       ·obtain ⟨ad,h2,_⟩:=hmem h;cases h2
      refine Calls.mono (hnil w es.length cap) fun e' w' he=> ?_
      obtain ⟨rfl,rfl⟩:=he
      exact ⟨_,_,rfl,.refl _ _,empty h1 _ _,fun b base hb=>by cases hb⟩
    | some ad=>
      have hnewsz:(w.alloc (.cells #[] e)).heap.size=w.heap.size+1:=by simp [World.alloc,-World.alloc_eq]
      have hcell: ∀a:Addr,ok a.block->(w.alloc (.cells #[] e)).cell? a=w.cell? a:=fun a ha=>by
       refine dL ?_
       have:=hok _ ha
       simp [World.alloc,-World.alloc_eq,Array.getElem?_push]
       intro h;omega
      have hbel:Below w.heap.size w (w.alloc (.cells #[] e)):=(Below.refl _ w).alloc (Nat.le_refl _) _
      rcases Nat.eq_zero_or_pos es.length with h1 | h1
      ·have hvs0:vs=[]:=List.length_eq_zero_iff.1 (by rw [hrows.1,h1];simp)
       have hrun:=xh (P:=P) (w:=w.alloc (.cells #[] e)) (ats:= #[t,t]) (ty:=t) rfl h0 h0 (by rw [hsz];exact hpos) (A:=some ⟨w.heap.size,0,none⟩) (A':=some ad) (n:=0) (cap:=0) (cap':=cap) (Nat.le_refl _)
       refine Calls.mono (hsome w ad es.length cap _ _ (by rw [h1];exact hrun)) fun e' w' he=> ?_
       obtain ⟨rfl,rfl⟩:=he
       exact ⟨_,_,rfl,hbel,empty h1 _ _,fun b base hb=>by cases hb⟩
      ·obtain ⟨newCap,rest,g1,g2,g3⟩:=ma (P:=P) (w:=w.alloc (.cells #[] e)) (ats:= #[t,t]) (ty:=t) rfl h0 h0 hel (A:=some ⟨w.heap.size,0,none⟩) (A':=some ad) (n:=0) (cap:=0) (m:=es.length) (cap':=cap) (us:=[]) (vs:=vs) (by simp) (fun h=>by omega) (by rw [hsz];exact hrows.1)
        (fun h=>by
          obtain ⟨b,hb1,hb2⟩:=hmem h
          cases hb1
          refine ⟨ad,rfl,fun q u hq=> ?_⟩
          rw [dL (w:=w)]
          ·exact hb2 q u hq
          ·have hlt:ad.block < w.heap.size:=by
            have:=hb2 q u hq
            unfold World.cell? at this
            rw [js] at this
            cases hx:w.heap[ad.block]? with
            | none=>rw [hx] at this;cases this
            | some _=>exact (Array.getElem?_eq_some_iff.1 hx).1
           rw [js]
           exact Below.heap_alloc w _ _ hlt) (by omega) (by rw [hby];simpa using hb)
       simp only [Nat.zero_add,List.nil_append] at g1 g2 g3
       refine Calls.mono (hsome w ad es.length cap _ _ g3) fun e' w' he=> ?_
       obtain ⟨rfl,rfl⟩:=he
       have hheap:((w.alloc (.cells #[] e)).drew.alloc (.cells (vs++rest).toArray e)).heap[(w.alloc (.cells #[] e)).heap.size]? =some (.cells (vs++rest).toArray e (0,0)):=ea (w.alloc (.cells #[] e)).drew _
       have hbel2:Below w.heap.size w ((w.alloc (.cells #[] e)).drew.alloc (.cells (vs++rest).toArray e)):=(hbel.drew).alloc (Nat.le_trans hbel.size (Nat.le_refl _)) _
       have hk:Keeps w ok ((w.alloc (.cells #[] e)).drew.alloc (.cells (vs++rest).toArray e)) ok:=⟨fun b hb=>hbel2.block b (hok b hb),fun _ h=>h⟩
       refine ⟨_,⟨some ((w.alloc (.cells #[] e)).heap.size,0),es.length,sz⟩,rfl,hbel2,⟨?_,⟨_,newCap,rfl,⟨g1,.inr ⟨_,0,rfl,by simp⟩⟩,fun b base hb=> ?_⟩⟩,fun b base hb=> ?_⟩
       ·refine pL (vs:=vs) hheap hall (hrows.later hk) (fun q hq=> ?_) ?_
        ·simp only [Nat.zero_add,List.getElem?_toArray]
         rw [List.getElem?_append_left hq]
        ·simp [hrows.1]
       ·cases hb
        refine ⟨_,_,_,hheap,?_⟩
        rw [hsz] at g2
        simp only [List.size_toArray,List.length_append,hrows.1,g2,Nat.zero_add]
        rw [<-Nat.add_mul]
        exact Nat.mul_le_mul_right _ (by omega)
       ·cases hb
        refine ⟨by rw [hnewsz];omega,?_⟩
        exact (Array.getElem?_eq_some_iff.1 hheap).1
 ·cases hr
end Go.AM
namespace Go.AM
open Go.RowKit
theorem NY {P:Program} (w:World) (tS tR e:TypeId) (ht:P.underlying tS=some (.slice e)) (size:Nat) (hz: ∀w,(Go.sizeOf e).run P w= .ok size w) (a:Addr) (b off la ca lb cb:Nat) (hne:a.block≠b) {c':Array Value} {T':TypeId} {fa:Nat×Nat} (ha:w.heap[a.block]? =some (.cells c' T' fa))
  {c:Array Value} {T:TypeId} (hb:w.heap[b]? =some (.cells c T (0,0))) (hc:c.size≠0) (hc':c'.size≠0):
  (Extern.SlicesOverlaps.overlaps #[tS,tS] #[tR] #[.slice (some a) la ca,.slice (some ⟨b,off,none⟩) lb cb]).run P w= .ok (.bool false) w:=by
 have hnb:(a.block !=b)=true:=by simpa using hne
 have hnb':(a.block==b)=false:=by simpa using hne
 have s1:w.shape? a.block=some (T',c'.size):=by unfold World.shape?;rw [ha]
 have s2:w.shape? b=some (T,c.size):=by unfold World.shape?;rw [hb]
 have f2: ∀x,w.frozen? ⟨b,x,none⟩=false:=fun x=>by unfold World.frozen?;simp [hb]
 have hpb: ∀{α β:Type} (x:α) (f:α->Sem β),(pure x:Sem α).bind f=f x:=fun _ _=>rfl
 by_cases h0:la=0\/lb=0\/size=0
 ·conv=>lhs;arg 2;whnf
  simp [Sem.run,Sem.bind,ht,hpb]
  simp [hz,h0,Result.andThen]
 ·conv=>lhs;arg 2;whnf
  cases hk:c.size with
  | zero=>exact absurd hk hc
  | succ k=>
   cases hk':c'.size with
   | zero=>exact absurd hk' hc'
   | succ k'=>
    rw [hk] at s2
    rw [hk'] at s1
    simp [Sem.run,Sem.bind,ht,hpb]
    simp [Sem.run,hz,h0,hne,hnb,hnb',frozen,noView,viewAt,mayBeOne,stringish,shape,s1,s2,f2,Result.andThen]
    cases w.frozen? a<;>cases w.frozen? { block:=a.block,off:=k'+1 }<;>simp [s1,s2,f2,Sem.run]
end Go.AM
namespace Go.AM
open Go.RowKit
theorem BL {P:Program} {w:World} {t t' ty e:TypeId} (hu:P.underlying t=some (.slice e)) (hpos:0 < P.cellsOf e) {b o dLen dCap sLen sCap:Nat} {A:Option Addr} {us:List Value} {n:Nat} (hn:n=Nat.min sLen dLen) (hul:us.length=n*P.cellsOf e)
  (huc:0 < n-> ∃ad,A=some ad/\ ∀q u,us[q]? =some u->w.cell? (ad.add q)=some u) (h1: ∀v∈us,v.oneCell'=true) {c:Array Value} {T:TypeId} (hw:w.heap[b]? =some (.cells c T (0,0))) (hroom:o+us.length<=c.size):
  (Builtin.copy_ #[t,t'] ty #[.slice (some ⟨b,o,none⟩) dLen dCap,.slice A sLen sCap]).run P w= .ok (goInt n) (w.setRow b (c.toList.take o++us++c.toList.drop (o+us.length)).toArray):=by
 obtain ⟨i,hi⟩:=Option.isSome_iff_exists.1 (gG hpos)
 have hF:(Builtin.firstCells (P.cellsOf e) n (.slice A sLen sCap)).run P w= .ok us.toArray w:=by
  have h:=cR (P:=P) (w:=w) (cap:=sCap) hul huc
  cases A<;>exact h
 have hst:=run_storeCells_at (P:=P) b o T us 0 c w hw (by omega) h1
 simp only [Builtin.copy_,run_underlying hu,Builtin.lenOf,run_sizeOf w hi,Sem.run_bind,Result.andThen_ok,Sem.run_pure,<-hn,hF,List.getElem?_toArray,List.getElem?_cons_zero,List.getElem?_cons_succ]
 have hst':(storeCells ⟨b,o,none⟩ us).run P w= .ok () (w.setRow b (c.toList.take o++us++c.toList.drop (o+us.length)).toArray):=by simpa using hst
 rw [hst']
 rfl
end Go.AM
namespace Go.AM
open Go.RowKit
def aK (l:List Value) (o:Nat) (us:List Value):List Value:=l.take o++us++l.drop (o+us.length)
theorem bW {l:List Value} {o:Nat} {us:List Value} (h:o+us.length<=l.length):(aK l o us).length=l.length:=by
 simp [aK];omega
theorem xB {l:List Value} {o:Nat} {us:List Value} (h:o+us.length<=l.length) {q:Nat} (hq:q < us.length):(aK l o us)[o+q]? =us[q]? :=by
 unfold aK
 have:(l.take o).length=o:=by simp;omega
 rw [List.append_assoc,List.getElem?_append_right (by omega),this,List.getElem?_append_left (by omega)]
 congr 1;omega
theorem tu {l:List Value} {o:Nat} {us:List Value} (h:o+us.length<=l.length) {q:Nat} (hq:q < o\/o+us.length<=q):(aK l o us)[q]? =l[q]? :=by
 unfold aK
 have ht:(l.take o).length=o:=by simp;omega
 rcases hq with hq | hq
 ·rw [List.append_assoc,List.getElem?_append_left (by omega),List.getElem?_take_of_lt hq]
 ·rw [List.append_assoc,List.getElem?_append_right (by omega),ht,List.getElem?_append_right (by omega),List.getElem?_drop]
  congr 1;omega
theorem NA {sz bytes:Nat} {x i y:IV} {r:List IV} (h:oP sz bytes x i y=some r): ∃es k ys,x= .lst es/\i= .int .i64 ((k:Nat):Int)/\k<=es.length/\y= .lst ys/\r=[.lst (es.take k++ys++es.drop k)]/\(es.length+ys.length)*(bytes+1)<=2 ^ 32/\ ∀e∈ys,e.length=sz:=by
 unfold oP at h
 split at h
 ·rename_i es i ys
  split at h
  ·rename_i hc
   cases h
   obtain ⟨h0,h1,h2,h3⟩:=hc
   refine ⟨es,i.toNat,ys,rfl,by rw [Int.toNat_of_nonneg h0],by omega,rfl,rfl,h2,fun e he=>by simpa using List.all_eq_true.1 h3 e he⟩
  ·cases h
 ·cases h
structure InsertWalks (P:Program) (g:FuncId) (t ti tr:TypeId) (sz:Nat):Prop where
 empty: ∀(w:World) (A A':Option Addr) (n c i c':Nat),i<=n->n<=c->Calls P g #[.slice A n c,.int .i64 i,.slice A' 0 c'] w fun e w'=>e= .returned (.slice A n c)/\w'=w
 last: ∀(w:World) (A A':Option Addr) (n c m c':Nat),n<=c->0 < m-> ∀(v':Value) (w':World),(Builtin.append_ #[t,t] t #[.slice A n c,.slice A' m c']).run P w= .ok v' w'->
  Calls P g #[.slice A n c,.int .i64 n,.slice A' m c'] w fun e w''=>e= .returned v'/\w''=w'
 grow: ∀(w:World) (b off n c i m c':Nat) (A':Option Addr),i < n->n<=c->0 < m->c < n+m->n+m<=2 ^ 40-> ∀(w3:World) (b2 c2:Nat) (w1 w2:World),
  (Builtin.append_ #[t,ti] t #[.slice (some ⟨b,off,none⟩) i c,.int .i64 ((n:Int)+m - i)]).run P w= .ok (.slice (some ⟨b2,0,none⟩) (n+m) c2) w1->
  n+m<=c2->(Builtin.copy_ #[t,t] ti #[.slice (some ⟨b2,0+i*sz,none⟩) (n+m - i) (c2 - i),.slice A' m c']).run P w1= .ok (goInt m) w2->
  (Builtin.copy_ #[t,t] ti #[.slice (some ⟨b2,0+(i+m)*sz,none⟩) (n+m - (i+m)) (c2 - (i+m)),.slice (some ⟨b,off+i*sz,none⟩) (n - i) (c - i)]).run P w2.drew= .ok (goInt (n - i:Nat)) w3->
  Calls P g #[.slice (some ⟨b,off,none⟩) n c,.int .i64 i,.slice A' m c'] w fun e w''=>e= .returned (.slice (some ⟨b2,0,none⟩) (n+m) c2)/\w''=w3
 shift: ∀(w:World) (b off n c i m c':Nat) (A':Option Addr),i < n->n<=c->0 < m->n+m<=c->n+m<=2 ^ 40-> ∀(w2 w3:World),
  (∀lb cb,(Extern.SlicesOverlaps.overlaps #[t,t] #[tr] #[.slice A' m c',.slice (some ⟨b,off+(i+m)*sz,none⟩) lb cb]).run P w= .ok (.bool false) w)->
  (Builtin.copy_ #[t,t] ti #[.slice (some ⟨b,off+(i+m)*sz,none⟩) (n+m - (i+m)) (c - (i+m)),.slice (some ⟨b,off+i*sz,none⟩) (n+m - i) (c - i)]).run P w.drew= .ok (goInt (n - i:Nat)) w2->
  (Builtin.copy_ #[t,t] ti #[.slice (some ⟨b,off+i*sz,none⟩) (n+m - i) (c - i),.slice A' m c']).run P w2= .ok (goInt m) w3->
  Calls P g #[.slice (some ⟨b,off,none⟩) n c,.int .i64 i,.slice A' m c'] w fun e w''=>e= .returned (.slice (some ⟨b,off,none⟩) (n+m) c)/\w''=w3
theorem Bb {P:Program} {w:World} {t0 t1 e:TypeId} {ty:TypeId} (hu:P.underlying t0=some (.slice e)) (hu1:P.underlying t1=some (.int .i64)) (hok:kM P e=true) {A:Option Addr} {n cap m:Nat} {us:List Value}
  (hul:us.length=n*P.cellsOf e) (huc:0 < n-> ∃ad,A=some ad/\ ∀q u,us[q]? =some u->w.cell? (ad.add q)=some u)
  (hneed:cap < n+m) (hbytes:(n+m)*(P.bytesOf e+1)<=2 ^ 40):
  ∃(newCap:Nat) (rest:List Value),n+m<=newCap/\rest.length=(newCap - n)*P.cellsOf e/\
   (Builtin.append_ #[t0,t1] ty #[.slice A n cap,.int .i64 (m:Int)]).run P w= .ok (.slice (some ⟨w.heap.size,0,none⟩) (n+m) newCap) (w.drew.alloc (.cells (us++rest).toArray e)):=by
 obtain ⟨i,z,hi,hz,hzs,hpos,hsz,hbt⟩:=e8 hok
 have hnb:n+m<=2 ^ 40:=Nat.le_trans (Nat.le_mul_of_pos_right _ (by omega)) hbytes
 let newCap:=(n+m)+(w.tape w.drawn (.appendCap (n+m) cap e)) % (2 ^ 63 - (n+m))
 have hF1:=fun (w':World) (hw:w'.heap=w.heap)=>cR (P:=P) (w:=w') (A:=A) (cap:=cap) hul (fun h=>by
  obtain ⟨ad,hA,hq⟩:=huc h
  exact ⟨ad,hA,fun q u hh=>by have:=hq q u hh;unfold World.cell? at*;rw [hw];exact this⟩)
 have hmax: ¬(((n+m:Nat):Int) > IntKind.i64.max):=by
  have:IntKind.i64.max=9223372036854775807:=by rfl
  omega
 have hcap:=Ec hbytes hneed
 have hw:w.drew.heap=w.heap:=rfl
 have hchoose:(choose (.appendCap (n+m) cap e)).run P w= .ok newCap w.drew:=by
  rfl
 have hpure: ∀{α:Type} (x:α) (w:World),(pure x:Sem α).run P w= .ok x w:=fun _ _=>rfl
 have hzv: ∀w':World,(zeroValue e).run P w'= .ok z w':=fun w'=>by simp [zeroValue,run_typeInfo w' hi,hz]
 have hwr:IntKind.i64.wrap (m:Int)=(m:Int):=by rw [IntKind.wrap_i64];omega
 have hasint: ∀(n:Int) (w:World),(asInt (.int .i64 n)).run P w= .ok n w:=fun _ _=>rfl
 have hl1: ¬((m:Int) < 0):=by omega
 have hl2: ¬((m:Int)*(P.bytesOf e:Int) > 2 ^ 48):=by
  have h1:m*P.bytesOf e<=(n+m)*(P.bytesOf e+1):=Nat.mul_le_mul (by omega) (by omega)
  have h2:((m*P.bytesOf e:Nat):Int)=(m:Int)*(P.bytesOf e:Int):=Int.natCast_mul _ _
  rw [<-h2]
  have:(2:Int) ^ 48=281474976710656:=by rfl
  have:(2:Nat) ^ 40=1099511627776:=by rfl
  omega
 by_cases hm0:m*P.cellsOf e=0
 ·have hm:m=0:=by
   rcases Nat.mul_eq_zero.1 hm0 with h | h
   ·exact h
   ·omega
  subst hm
  refine ⟨newCap,(Builtin.zeroCells z.cells (newCap - n)).toList,by omega,by simp [lS,hzs],?_⟩
  simp only [Builtin.append_,Sem.run_bind,run_underlying hu,run_underlying hu1,run_sizeOf w hi,Result.andThen_ok,Builtin.lenOf,List.getElem?_toArray,List.getElem?_cons_zero,List.getElem?_cons_succ,Bool.not_true,Bool.not_false,Bool.false_eq_true,if_false,if_true,false_or,true_or,and_true,hpure,hasint,hwr,if_neg hl1,run_typeInfo w hi,hbt,if_neg hl2,Int.toNat_natCast,if_neg (Nat.not_le.2 hneed)]
  simp only [Sem.run_bind,run_typeInfo w hi,Result.andThen_ok,hbt,if_neg hcap,if_neg hmax,hchoose,run_typeInfo w.drew hi,run_askRoom,hF1 w.drew hw,hzv,newRow,hpure,hm0,if_true]
  simp
  congr 2
  apply Array.toList_inj.1
  simp
 ·refine ⟨newCap,(Builtin.zeroCells z.cells m).toList++(Builtin.zeroCells z.cells (newCap - (n+m))).toList,by omega,by
   simp only [List.length_append,Array.length_toList,lS,hzs]
   rw [<-Nat.add_mul]
   congr 1
   omega,?_⟩
  simp only [Builtin.append_,Sem.run_bind,run_underlying hu,run_underlying hu1,run_sizeOf w hi,Result.andThen_ok,Builtin.lenOf,List.getElem?_toArray,List.getElem?_cons_zero,List.getElem?_cons_succ,Bool.not_true,Bool.not_false,Bool.false_eq_true,if_false,if_true,false_or,true_or,and_true,hpure,hasint,hwr,if_neg hl1,run_typeInfo w hi,hbt,if_neg hl2,Int.toNat_natCast,if_neg (Nat.not_le.2 hneed)]
  simp only [Sem.run_bind,run_typeInfo w hi,Result.andThen_ok,hbt,if_neg hcap,if_neg hmax,hchoose,run_typeInfo w.drew hi,run_askRoom,hF1 w.drew hw,hzv,newRow,hpure,if_neg hm0]
  simp
  congr 2
  apply Array.toList_inj.1
  simp
theorem IG {w':World} {ok:Nat->Prop} {es:List (List IV)} {sz:Nat} {vs:List Value} {b base cap:Nat} {c:Array Value} {T:TypeId} (hw:w'.heap[b]? =some (.cells c T (0,0))) (hall: ∀e∈es,e.length=sz) (hr:Rows w' ok es sz vs)
  (hc: ∀q,q < vs.length->c[base+q]? =vs[q]?) {n:Nat} (hn:es.length=n) (hcap:n<=cap) (hroom:base+cap*sz<=c.size) (hpos:0 < sz:=by assumption):OwnVal w' ok sz (.lst es) (.slice (some ⟨b,base,none⟩) n cap) ⟨some (b,base),n,sz⟩:=by
 subst hn
 refine ⟨pL (mu':=fun _=>none) hw hall hr hc (Nat.le_trans ?_ hroom),some ⟨b,base,none⟩,cap,rfl,⟨hcap,.inr ⟨b,base,rfl,by simp⟩⟩,fun b' base' h=> ?_⟩
 ·exact Nat.add_le_add_left (Nat.mul_le_mul_right _ hcap) _
 ·cases h;exact ⟨c,T,_,hw,hroom⟩
theorem Rows.insert {w:World} {ok:Nat->Prop} {es ys:List (List IV)} {sz k:Nat} {us vs:List Value} (h1:Rows w ok es sz us) (h2:Rows w ok ys sz vs) (he: ∀e∈es,e.length=sz) (hy: ∀e∈ys,e.length=sz) (hk:k<=es.length):
  Rows w ok (es.take k++ys++es.drop k) sz (us.take (k*sz)++vs++us.drop (k*sz)):=by
 have htake:Rows w ok (es.take k) sz (us.take (k*sz)):=by
  refine ⟨?_,fun v hv=>h1.2.1 v (List.mem_of_mem_take hv),fun i j e x hi hj=> ?_⟩
  ·simp only [List.length_take,h1.1,Nat.min_eq_left hk]
   exact Nat.min_eq_left (Nat.mul_le_mul_right _ hk)
  ·have hik:i < k:=by have:=(List.getElem?_eq_some_iff.1 hi).1;simp at this;omega
   rw [List.getElem?_take_of_lt hik] at hi
   have hjl:j < sz:=by rw [<-he e (List.mem_of_getElem? hi)];exact (List.getElem?_eq_some_iff.1 hj).1
   obtain ⟨v,hv,hr⟩:=h1.2.2 i j e x hi hj
   exact ⟨v,by rw [List.getElem?_take_of_lt (wY hik hjl)];exact hv,hr⟩
 have hdrop:Rows w ok (es.drop k) sz (us.drop (k*sz)):=by
  refine ⟨?_,fun v hv=>h1.2.1 v (List.mem_of_mem_drop hv),fun i j e x hi hj=> ?_⟩
  ·simp only [List.length_drop,h1.1,Nat.sub_mul]
  ·rw [List.getElem?_drop] at hi
   obtain ⟨v,hv,hr⟩:=h1.2.2 (k+i) j e x hi hj
   exact ⟨v,by rw [List.getElem?_drop,<-Nat.add_assoc,<-Nat.add_mul];exact hv,hr⟩
 exact (htake.append h2 fun e hm=>he e (List.mem_of_mem_take hm)).append hdrop fun e hm=>by
  rcases List.mem_append.1 hm with h | h
  ·exact he e (List.mem_of_mem_take h)
  ·exact hy e h
theorem yB {w:World} {a:Addr} {u:Value} (h:w.cell? a=some u): ∃(c:Array Value) (T:TypeId) (fr:Nat×Nat),w.heap[a.block]? =some (.cells c T fr)/\c.size≠0:=by
 unfold World.cell? at h
 split at h
 ·rename_i c T fr hc
  refine ⟨c,T,fr,hc,fun h0=> ?_⟩
  have:c= #[]:=Array.eq_empty_of_size_eq_zero h0
  subst this
  simp at h
 ·cases h
theorem Bc {c:Array Value} {base sz k n m:Nat} {us vs:List Value} (hul:us.length=n*sz) (hvl:vs.length=m*sz) (hk:k<=n) (h1: ∀q,q < k*sz->c[base+q]? =us[q]?) (h2: ∀q,q < vs.length->c[base+k*sz+q]? =vs[q]?)
  (h3: ∀q,q < (n - k)*sz->c[base+(k+m)*sz+q]? =us[k*sz+q]?): ∀q,q < (us.take (k*sz)++vs++us.drop (k*sz)).length->c[base+q]? =(us.take (k*sz)++vs++us.drop (k*sz))[q]? :=by
 intro q hq
 have hks:k*sz<=n*sz:=Nat.mul_le_mul_right _ hk
 have htl:(us.take (k*sz)).length=k*sz:=by simp;omega
 have hsub:(n - k)*sz=n*sz - k*sz:=Nat.sub_mul _ _ _
 have hadd:(k+m)*sz=k*sz+m*sz:=Nat.add_mul _ _ _
 simp only [List.length_append,List.length_drop,htl] at hq
 by_cases hq1:q < k*sz
 ·rw [List.append_assoc,List.getElem?_append_left (by omega),List.getElem?_take_of_lt hq1]
  exact h1 q hq1
 ·by_cases hq2:q < k*sz+m*sz
  ·rw [List.append_assoc,List.getElem?_append_right (by omega),htl,List.getElem?_append_left (by omega),<-h2 (q - k*sz) (by omega)]
   congr 1;omega
  ·rw [List.append_assoc,List.getElem?_append_right (by omega),htl,List.getElem?_append_right (by omega),List.getElem?_drop,hvl]
   have:=h3 (q - k*sz - m*sz) (by omega)
   rw [<-this]
   congr 1;omega
def Cf (w:World) (ok:Nat->Prop) (sz:Nat) (loc:Option (Nat×Nat)) (r:List (List IV)) (e:Ending) (w':World):Prop:=
 ∃v npl,e= .returned v/\w'.os=w.os/\w'.tape=w.tape/\w'.output=w.output/\w.heap.size<=w'.heap.size/\Sizes w w'/\
     (∀b,b < w.heap.size->(∀base,loc≠some (b,base))->w'.heap[b]? =w.heap[b]?)/\OwnVal w' ok sz (.lst r) v npl/\
     ∀b base,npl.loc=some (b,base)->(w.heap.size<=b/\b < w'.heap.size)\/ ∃base',loc=some (b,base')
theorem GI {w w':World} {ok:Nat->Prop} (hok: ∀b,ok b->b < w.heap.size) {sz:Nat} {loc:Option (Nat×Nat)} {es ys:List (List IV)} {k:Nat} {us vs:List Value} {c2:Nat} {c:Array Value} {T:TypeId}
  (hos:w'.os=w.os) (htp:w'.tape=w.tape) (hout:w'.output=w.output) (hsize:w'.heap.size=w.heap.size+1) (hold: ∀b,b < w.heap.size->w'.heap[b]? =w.heap[b]?) (hw:w'.heap[w.heap.size]? =some (.cells c T (0,0)))
  (he: ∀e∈es,e.length=sz) (hy: ∀e∈ys,e.length=sz) (hk:k<=es.length) (h1:Rows w ok es sz us) (h2:Rows w ok ys sz vs)
  (g1: ∀q,q < k*sz->c[0+q]? =us[q]?) (g2: ∀q,q < vs.length->c[0+k*sz+q]? =vs[q]?) (g3: ∀q,q < (es.length - k)*sz->c[0+(k+ys.length)*sz+q]? =us[k*sz+q]?) (hcap:es.length+ys.length<=c2) (hroom:c2*sz<=c.size) (hpos:0 < sz:=by assumption):
  Cf w ok sz loc (es.take k++ys++es.drop k) (.returned (.slice (some ⟨w.heap.size,0,none⟩) (es.length+ys.length) c2)) w':=by
 have hkeep:Keeps w ok w' ok:=⟨fun b hb=>hold b (hok b hb),fun _ h=>h⟩
 refine ⟨_,⟨some (w.heap.size,0),es.length+ys.length,sz⟩,rfl,hos,htp,hout,by omega,fun b c T z hb=> ?_,fun b hb _=>hold b hb,?_,fun b base hb=> ?_⟩
 ·exact ⟨c,z,by rw [hold b (Array.getElem?_eq_some_iff.1 hb).1];exact hb,rfl⟩
 ·refine IG hw (fun e hm=> ?_) ((Rows.insert h1 h2 he hy hk).later hkeep) (Bc h1.1 h2.1 hk g1 g2 g3) (by simp;omega) hcap (by omega)
  rcases List.mem_append.1 hm with h | h
  ·rcases List.mem_append.1 h with h | h
   ·exact he e (List.mem_of_mem_take h)
   ·exact hy e h
  ·exact he e (List.mem_of_mem_drop h)
 ·cases hb
  exact .inl ⟨Nat.le_refl _,by omega⟩
theorem Lx {w w':World} {ok:Nat->Prop} {sz:Nat} {b base:Nat} {es ys:List (List IV)} {k:Nat} {us vs:List Value} {c2:Nat} {c0 c:Array Value} {T:TypeId} (hnok: ¬ok b)
  (hos:w'.os=w.os) (htp:w'.tape=w.tape) (hout:w'.output=w.output) (hsize:w'.heap.size=w.heap.size) (hold: ∀b',b'≠b->w'.heap[b']? =w.heap[b']?) (hw0:w.heap[b]? =some (.cells c0 T (0,0))) (hw:w'.heap[b]? =some (.cells c T (0,0))) (hcs:c.size=c0.size)
  (he: ∀e∈es,e.length=sz) (hy: ∀e∈ys,e.length=sz) (hk:k<=es.length) (h1:Rows w ok es sz us) (h2:Rows w ok ys sz vs)
  (g1: ∀q,q < k*sz->c[base+q]? =us[q]?) (g2: ∀q,q < vs.length->c[base+k*sz+q]? =vs[q]?) (g3: ∀q,q < (es.length - k)*sz->c[base+(k+ys.length)*sz+q]? =us[k*sz+q]?) (hcap:es.length+ys.length<=c2) (hroom:base+c2*sz<=c0.size) (hpos:0 < sz:=by assumption):
  Cf w ok sz (some (b,base)) (es.take k++ys++es.drop k) (.returned (.slice (some ⟨b,base,none⟩) (es.length+ys.length) c2)) w':=by
 have hkeep:Keeps w ok w' ok:=⟨fun b' hb=>hold b' fun e=>hnok (e▸hb),fun _ h=>h⟩
 refine ⟨_,⟨some (b,base),es.length+ys.length,sz⟩,rfl,hos,htp,hout,by omega,fun b' c' T' z' hb=> ?_,fun b' hb hne=>hold b' fun e=>hne base (by rw [e]),?_,fun b' base' hb=> ?_⟩
 ·by_cases e:b'=b
  ·subst e
   rw [hw0] at hb;cases hb
   exact ⟨c,_,hw,hcs⟩
  ·exact ⟨c',z',by rw [hold b' e];exact hb,rfl⟩
 ·refine IG hw (fun e hm=> ?_) ((Rows.insert h1 h2 he hy hk).later hkeep) (Bc h1.1 h2.1 hk g1 g2 g3) (by simp;omega) hcap (by omega)
  rcases List.mem_append.1 hm with h | h
  ·rcases List.mem_append.1 h with h | h
   ·exact he e (List.mem_of_mem_take h)
   ·exact hy e h
  ·exact he e (List.mem_of_mem_drop h)
 ·cases hb
  exact .inr ⟨base,rfl⟩
theorem Wd {l:List Value} {o:Nat} {us:List Value} (h:o+us.length<=l.length) {q:Nat} (hq:o<=q/\q < o+us.length):(aK l o us).toArray[q]? =us[q - o]? :=by
 rw [List.getElem?_toArray]
 have:=xB h (q:=q - o) (by omega)
 rwa [show o+(q - o)=q by omega] at this
theorem Ct {l:List Value} {o:Nat} {us:List Value} (h:o+us.length<=l.length) {q:Nat} (hq:q < o\/o+us.length<=q):(aK l o us).toArray[q]? =l[q]? :=by
 rw [List.getElem?_toArray];exact tu h hq
theorem pY {P:Program} {g:FuncId} {t ti tr e:TypeId} {sz bytes:Nat} (h0:P.underlying t=some (.slice e)) (hti:P.underlying ti=some (.int .i64)) (hel:kM P e=true) (hsz:P.cellsOf e=sz) (hby:P.bytesOf e=bytes) (W:InsertWalks P g t ti tr sz):
  ah P g ⟨.cons,false,[1],sz,fun l=>match l with | [[x0],[x1],[x2]]=>oP sz bytes x0 x1 x2 | _=>none⟩:=by
 obtain ⟨ii,zz,hii,hzz,hzs,hpos,hisz,hbt⟩:=e8 hel
 rw [hsz] at hpos hzs hisz
 unfold ah
 simp only
 intro w ok as x v0 pl args r hok hown hnok hargs hr
 split at hr
 ·rename_i x0 x1 x2 heq
  obtain ⟨rfl,rfl⟩:x=x0/\as=[[x1],[x2]]:=by simpa using heq
  obtain ⟨es,k,ys,rfl,rfl,hk,rfl,rfl,hbig,hys⟩:=NA hr
  obtain ⟨hl,hrel⟩:=hargs
  match args,hl with
  | [v1,v2],_=>
  have hv1:v1= .int .i64 ((k:Nat):Int):=by
   rcases hrel 0 _ v1 rfl rfl with ⟨y,e1,h1⟩ | ⟨h1,_⟩
   ·cases e1;cases h1;rfl
   ·simp at h1
  subst hv1
  have hv2:RV w ok (.lst ys) v2:=by
   rcases hrel 1 _ v2 rfl rfl with ⟨y,e1,h1⟩ | ⟨h1,_⟩
   ·cases e1;exact h1
   ·simp at h1
  obtain ⟨A',c',vs,rfl,hvrows,hvmem⟩:=MZ hok hv2 hpos hys
  obtain ⟨hob,A,c,rfl,hh,hc⟩:=hown
  have hown:OwnVal w ok sz (.lst es) (.slice A pl.len c) pl:=⟨hob,A,c,rfl,hh,hc⟩
  obtain ⟨loc,n,sz'⟩:=pl
  obtain ⟨hplsz,es0,he0,hlen,hall,hnone,hcell⟩:=hob.arrN (fun _ h=>by cases h)
  cases he0
  simp only at hplsz hlen hnone hcell hh hc hnok hown ⊢
  subst hplsz
  subst hlen
  have hnm:es.length+ys.length<=2 ^ 32:=Nat.le_trans (Nat.le_mul_of_pos_right _ (by omega)) hbig
  have hnm40:es.length+ys.length<=2 ^ 40:=Nat.le_trans hnm (by decide)
  have hbig40:(es.length+ys.length)*(bytes+1)<=2 ^ 40:=Nat.le_trans hbig (by decide)
  show Calls P g #[.slice A es.length c,.int .i64 (k:Int),.slice A' ys.length c'] w (Cf w ok sz' loc (es.take k++ys++es.drop k))
  rcases Nat.eq_zero_or_pos ys.length with hm | hm
  ·have:ys=[]:=List.length_eq_zero_iff.1 hm
   subst this
   refine Calls.mono (W.empty w A A' es.length c k c' hk hh.1) fun e' w' he=> ?_
   obtain ⟨rfl,rfl⟩:=he
   refine ⟨_,⟨loc,es.length,sz'⟩,rfl,rfl,rfl,rfl,Nat.le_refl _,Sizes.refl _,fun _ _ _=>rfl,?_,fun b base h=> .inr ⟨base,h⟩⟩
   simpa using hown
  obtain ⟨ad,hA',hvc⟩:=hvmem hm
  subst hA'
  have hadok:ok ad.block:=by
   cases hv2 with
   | lst _ a cap s vals hcap hsz2 hmem hrel2=>
     have hs:s=sz':=by rw [<-hsz2 _ (List.getElem_mem hm)];exact hys _ (List.getElem_mem hm)
     obtain ⟨ad',e1,h1,_⟩:=hmem 0 0 hm (by omega)
     cases e1;exact h1
  have hul2: ∀{l:List Value} {j:Nat},l.length=j*sz'->l.length=j*P.cellsOf e:=fun h=>by rw [hsz];exact h
  by_cases hc0:c=0
  ·subst hc0
   have hn0:es.length=0:=by have:=hh.1;omega
   have hes:es=[]:=List.length_eq_zero_iff.1 hn0
   subst hes
   have hk0:k=0:=by simpa using hk
   subst hk0
   obtain ⟨newCap,rest,g1,g2,g3⟩:=ma (P:=P) (w:=w) (ats:= #[t,t]) (ty:=t) rfl h0 h0 hel (A:=A) (A':=some ad) (n:=0) (cap:=0) (m:=ys.length) (cap':=c') (us:=[]) (vs:=vs) (by simp) (fun h=>by omega) (hul2 hvrows.1)
    (fun h=>⟨ad,rfl,hvc⟩) (by omega) (by rw [hby];simpa using hbig40)
   refine Calls.mono (W.last w A (some ad) 0 0 ys.length c' (Nat.le_refl _) hm _ _ g3) fun e' w' he=> ?_
   obtain ⟨rfl,rfl⟩:=he
   simp only [List.nil_append,Nat.zero_add] at g1 g2 ⊢
   have:=GI (w:=w) (w':=w.drew.alloc (.cells (vs++rest).toArray e)) hok (loc:=loc) (es:=[]) (ys:=ys) (k:=0) (us:=[]) (vs:=vs) (c2:=newCap) rfl rfl rfl (by show (w.heap.push _).size=_;simp) (fun b hb=>Below.heap_alloc w.drew _ b hb) (ea w.drew _) hall hys (Nat.zero_le _)
    ⟨by simp,fun v hv=>by simp at hv,fun i j e x h=>by simp at h⟩ hvrows (fun q hq=>by omega) (fun q hq=>by
      simp only [Nat.zero_mul,Nat.zero_add,List.getElem?_toArray]
      rw [List.getElem?_append_left hq]) (fun q hq=>by simp at hq) (by simpa using g1) (by
      simp only [List.size_toArray,List.length_append,hvrows.1,g2,hsz]
      rw [<-Nat.add_mul]
      exact Nat.mul_le_mul_right _ (by omega))
   simpa using this
  rcases hh.2 with ⟨_,h1⟩ | ⟨b,base,hloc,hA⟩
  ·exact absurd h1 hc0
  simp only at hloc
  subst hloc
  simp only [Nat.zero_mul,Nat.add_zero] at hA
  subst hA
  obtain ⟨c1,T,hw,hroom1,hrelc⟩:=hcell b base rfl
  obtain ⟨c1',T',z',hw',hroom⟩:=hc b base rfl
  rw [hw] at hw';cases hw'
  have hbnok:=hnok b base rfl
  have hblt:b < w.heap.size:=(Array.getElem?_eq_some_iff.1 hw).1
  have hold: ∃us,Rows w ok es sz' us/\ ∀q,q < us.length->c1[base+q]? =us[q]? :=by
   have iq:InvQ w ok (fun q=>if q=0 then some ⟨some (b,base),es.length,sz'⟩ else none) [.arr .rw sz' (.lst es)]:=by
    refine ⟨hok,fun o pl ho=> ?_,fun o pl b' base' ho hl=> ?_⟩
    ·split at ho
     ·rename_i e;subst e;cases ho
      exact .inl ⟨by assumption,rfl,es,rfl,rfl,hall,hnone,hcell⟩
     ·cases ho
    ·split at ho
     ·cases ho;cases hl;exact hblt
     ·cases ho
   obtain ⟨A2,cap2,us,hv,h1,h2⟩:=nG iq (p:= .buf 0 es.length) (v:= .slice (some ⟨b,base,none⟩) es.length c) (.buf 0 es.length _ c ⟨some (b,base),es.length,sz'⟩ rfl rfl hh hc) (ys:=es) rfl hpos hall
   obtain ⟨rfl,_,rfl⟩:=Value.slice.inj hv
   refine ⟨us,h1,fun q hq=> ?_⟩
   have he0:0 < es.length:=by
    rcases Nat.eq_zero_or_pos es.length with h | h
    ·rw [h1.1,h,Nat.zero_mul] at hq;omega
    ·exact h
   obtain ⟨ad2,e2,h3⟩:=h2 he0
   cases e2
   have:=h3 q us[q] (List.getElem?_eq_getElem hq)
   rw [cg,eu hw] at this
   rw [this,List.getElem?_eq_getElem hq]
  obtain ⟨us,hus,hcells⟩:=hold
  have hulen:=hus.1
  have hvlen:=hvrows.1
  have hks:k*sz'<=es.length*sz':=Nat.mul_le_mul_right _ hk
  have hadd:(k+ys.length)*sz'=k*sz'+ys.length*sz':=Nat.add_mul _ _ _
  have hsub:(es.length - k)*sz'=es.length*sz' - k*sz':=Nat.sub_mul _ _ _
  have hncap:es.length*sz'<=c*sz':=Nat.mul_le_mul_right _ hh.1
  have hdl:(us.drop (k*sz')).length=(es.length - k)*sz':=by simp only [List.length_drop];omega
  have hadne:ad.block≠b:=fun h=>hbnok (h▸hadok)
  have hl0:c1.toList.length=c1.size:=by simp
  have holdc: ∀q,q < us.length->c1.toList[base+q]? =us[q]? :=fun q hq=>by rw [Array.getElem?_toList];exact hcells q hq
  by_cases hfit:es.length+ys.length<=c
  ·have hfits:es.length*sz'+ys.length*sz'<=c*sz':=by rw [<-Nat.add_mul];exact Nat.mul_le_mul_right _ hfit
   by_cases hkn:k=es.length
   ·subst hkn
    have hrun:=wy (P:=P) (w:=w) (ats:= #[t,t]) (ty:=t) rfl h0 h0 (by rw [hsz];exact hpos) (A:=some ⟨b,base,none⟩) (A':=some ad) (n:=es.length) (cap:=c) (m:=ys.length) (cap':=c') (vs:=vs) (hul2 hvlen) (fun _=>⟨ad,rfl,hvc⟩) hvrows.2.1 hfit rfl hw (by rw [hsz];omega)
    refine Calls.mono (W.last w _ _ _ c _ c' hh.1 hm _ _ hrun) fun e' w' he=> ?_
    obtain ⟨rfl,rfl⟩:=he
    rw [hsz]
    have hle:base+es.length*sz'+vs.length<=c1.toList.length:=by omega
    have hwr:=cq (c':=(aK c1.toList (base+es.length*sz') vs).toArray) hw (by simp [bW hle])
    refine Lx (c:=(aK c1.toList (base+es.length*sz') vs).toArray) hbnok rfl rfl rfl hwr.size hwr.other hw hwr.now (by simp [bW hle]) hall hys hk hus hvrows (fun q hq=> ?_) (fun q hq=> ?_) (fun q hq=> ?_) hfit hroom
    ·rw [Ct hle (.inl (by omega))];exact holdc q (by omega)
    ·rw [Wd hle (by omega)];congr 1;omega
    ·simp at hq
   ·have hov: ∀lb cb,(Extern.SlicesOverlaps.overlaps #[t,t] #[tr] #[.slice (some ad) ys.length c',.slice (some ⟨b,base+(k+ys.length)*sz',none⟩) lb cb]).run P w= .ok (.bool false) w:=fun lb cb=>by
     have hu0:0 < vs.length:=by rw [hvlen];exact Nat.mul_pos hm hpos
     obtain ⟨c3,T3,fr3,h3,h4⟩:=yB (hvc 0 vs[0] (List.getElem?_eq_getElem hu0))
     rw [js] at h3
     exact NY w t tr e h0 sz' (fun w'=>by rw [run_sizeOf w' hii];exact congrArg (fun x=>Result.ok x w') hsz) ad b _ _ _ _ _ hadne h3 hw (by
      have:0 < c*sz':=Nat.mul_pos (by omega) hpos
      omega) h4
    have hle1:base+(k+ys.length)*sz'+(us.drop (k*sz')).length<=c1.toList.length:=by omega
    have hwd:w.drew.heap[b]? =some (.cells c1 T (0,0)):=hw
    have hc1:=BL (P:=P) (w:=w.drew) (t:=t) (t':=t) (ty:=ti) h0 (by rw [hsz];exact hpos) (b:=b) (o:=base+(k+ys.length)*sz') (dLen:=es.length+ys.length - (k+ys.length)) (dCap:=c - (k+ys.length)) (sLen:=es.length+ys.length - k) (sCap:=c - k) (A:=some ⟨b,base+k*sz',none⟩) (us:=us.drop (k*sz')) (n:=es.length - k)
     (by simp only [Nat.min_def];split<;>omega) (by rw [hsz];exact hdl) (fun _=>⟨_,rfl,fun q u hq=>by
       rw [cg,eu hwd,Nat.add_assoc]
       rw [List.getElem?_drop] at hq
       rw [hcells _ (List.getElem?_eq_some_iff.1 hq).1];exact hq⟩) (fun v hv=>hus.2.1 v (List.mem_of_mem_drop hv)) hwd (by rw [<-hl0];exact hle1)
    have hs1:(aK c1.toList (base+(k+ys.length)*sz') (us.drop (k*sz'))).toArray.size=c1.size:=by rw [List.size_toArray,bW hle1,hl0]
    have hwr:=cq (w:=w.drew) (c':=(aK c1.toList (base+(k+ys.length)*sz') (us.drop (k*sz'))).toArray) hwd hs1
    have hle2:base+k*sz'+vs.length<=(aK c1.toList (base+(k+ys.length)*sz') (us.drop (k*sz'))).length:=by rw [bW hle1];omega
    have hc2:=BL (P:=P) (w:=w.drew.setRow b (aK c1.toList (base+(k+ys.length)*sz') (us.drop (k*sz'))).toArray) (t:=t) (t':=t) (ty:=ti) h0 (by rw [hsz];exact hpos) (b:=b) (o:=base+k*sz') (dLen:=es.length+ys.length - k) (dCap:=c - k) (sLen:=ys.length) (sCap:=c') (A:=some ad) (us:=vs) (n:=ys.length)
     (by simp only [Nat.min_def];split<;>omega) (hul2 hvlen) (fun _=>⟨_,rfl,fun q u hq=>by
       rw [dL (w:=w) (by rw [js];exact hwr.other _ hadne)]
       exact hvc q u hq⟩) hvrows.2.1 hwr.now (by simpa using hle2)
    have hs2:(aK (aK c1.toList (base+(k+ys.length)*sz') (us.drop (k*sz'))) (base+k*sz') vs).toArray.size=(aK c1.toList (base+(k+ys.length)*sz') (us.drop (k*sz'))).toArray.size:=by rw [List.size_toArray,bW hle2,List.size_toArray]
    have hwr2:=cq (c':=(aK (aK c1.toList (base+(k+ys.length)*sz') (us.drop (k*sz'))) (base+k*sz') vs).toArray) hwr.now hs2
    refine Calls.mono (W.shift w b base es.length c k ys.length c' (some ad) (by omega) hh.1 hm hfit hnm40 _ _ hov hc1 hc2) fun e' w' he=> ?_
    obtain ⟨rfl,rfl⟩:=he
    refine Lx (c:=(aK (aK c1.toList (base+(k+ys.length)*sz') (us.drop (k*sz'))) (base+k*sz') vs).toArray) hbnok rfl rfl rfl (hwr2.size.trans hwr.size) (fun b' hb'=>(hwr2.other b' hb').trans (hwr.other b' hb')) hw hwr2.now (hs2.trans hs1) hall hys hk hus hvrows (fun q hq=> ?_) (fun q hq=> ?_) (fun q hq=> ?_) hfit hroom
    ·rw [Ct hle2 (.inl (by omega)),tu hle1 (.inl (by omega))];exact holdc q (by omega)
    ·rw [Wd hle2 (by omega)];congr 1;omega
    ·rw [Ct hle2 (.inr (by omega)),xB hle1 (by omega),List.getElem?_drop]
  ·by_cases hkn:k=es.length
   ·subst hkn
    obtain ⟨newCap,rest,g1,g2,g3⟩:=ma (P:=P) (w:=w) (ats:= #[t,t]) (ty:=t) rfl h0 h0 hel (A:=some ⟨b,base,none⟩) (A':=some ad) (n:=es.length) (cap:=c) (m:=ys.length) (cap':=c') (us:=us) (vs:=vs) (hul2 hulen)
     (fun _=>⟨_,rfl,fun q u hq=>by rw [cg,eu hw,hcells _ (List.getElem?_eq_some_iff.1 hq).1];exact hq⟩) (hul2 hvlen) (fun _=>⟨ad,rfl,hvc⟩) (by omega) (by rw [hby];exact hbig40)
    refine Calls.mono (W.last w _ _ _ c _ c' hh.1 hm _ _ g3) fun e' w' he=> ?_
    obtain ⟨rfl,rfl⟩:=he
    rw [hsz] at g2
    refine GI (w:=w) hok rfl rfl rfl (by show (w.heap.push _).size=_;simp) (fun b hb=>Below.heap_alloc w.drew _ b hb) (ea w.drew _) hall hys hk hus hvrows (fun q hq=> ?_) (fun q hq=> ?_) (fun q hq=> ?_) g1 ?_
    ·simp only [Nat.zero_add,List.getElem?_toArray]
     rw [List.append_assoc,List.getElem?_append_left (by omega)]
    ·simp only [Nat.zero_add,List.getElem?_toArray]
     rw [List.append_assoc,List.getElem?_append_right (by omega),List.getElem?_append_left (by omega)]
     congr 1;omega
    ·simp at hq
    ·simp only [List.size_toArray,List.length_append,hulen,hvlen,g2]
     rw [<-Nat.add_mul,<-Nat.add_mul]
     exact Nat.mul_le_mul_right _ (by omega)
   ·have hint:((es.length:Int)+(ys.length:Int) - (k:Int))=((es.length+ys.length - k:Nat):Int):=by omega
    have htl:(us.take (k*sz')).length=k*sz':=by simp;omega
    obtain ⟨newCap,rest,g1,g2,g3⟩:=Bb (P:=P) (w:=w) (t0:=t) (t1:=ti) (ty:=t) h0 hti hel (A:=some ⟨b,base,none⟩) (n:=k) (cap:=c) (m:=es.length+ys.length - k) (us:=us.take (k*sz')) (by rw [hsz];exact htl)
     (fun _=>⟨_,rfl,fun q u hq=>by
       have hqk:q < k*sz':=by have:=(List.getElem?_eq_some_iff.1 hq).1;omega
       rw [List.getElem?_take_of_lt hqk] at hq
       rw [cg,eu hw,hcells _ (List.getElem?_eq_some_iff.1 hq).1];exact hq⟩) (by omega) (by rw [hby,show k+(es.length+ys.length - k)=es.length+ys.length by omega];exact hbig40)
    rw [show k+(es.length+ys.length - k)=es.length+ys.length by omega] at g1 g3
    rw [hsz,Nat.sub_mul] at g2
    have hnc2:(es.length+ys.length)*sz'<=newCap*sz':=Nat.mul_le_mul_right _ g1
    rw [Nat.add_mul] at hnc2
    rw [<-hint] at g3
    generalize hcs:us.take (k*sz')++rest=cs at g3
    have hcsl:cs.length=newCap*sz':=by rw [<-hcs,List.length_append,htl,g2];omega
    have hcs1: ∀q,q < k*sz'->cs[q]? =us[q]? :=fun q hq=>by rw [<-hcs,List.getElem?_append_left (by omega),List.getElem?_take_of_lt hq]
    have hheap:(w.drew.alloc (.cells cs.toArray e)).heap[w.heap.size]? =some (.cells cs.toArray e (0,0)):=ea w.drew _
    have hblk: ∀b',b' < w.heap.size->(w.drew.alloc (.cells cs.toArray e)).heap[b']? =w.heap[b']? :=fun b' hb'=>Below.heap_alloc w.drew _ b' hb'
    have hle1:0+k*sz'+vs.length<=cs.length:=by omega
    have hc1:=BL (P:=P) (w:=w.drew.alloc (.cells cs.toArray e)) (t:=t) (t':=t) (ty:=ti) h0 (by rw [hsz];exact hpos) (b:=w.heap.size) (o:=0+k*sz') (dLen:=es.length+ys.length - k) (dCap:=newCap - k) (sLen:=ys.length) (sCap:=c') (A:=some ad) (us:=vs) (n:=ys.length)
     (by simp only [Nat.min_def];split<;>omega) (hul2 hvlen) (fun _=>⟨_,rfl,fun q u hq=>by
       rw [dL (w:=w) (by rw [js];exact hblk _ (hok _ hadok))]
       exact hvc q u hq⟩) hvrows.2.1 hheap (by simpa using hle1)
    have hs1:(aK cs (0+k*sz') vs).toArray.size=cs.toArray.size:=by rw [List.size_toArray,bW hle1,List.size_toArray]
    have hwr:=cq (c':=(aK cs (0+k*sz') vs).toArray) hheap hs1
    generalize hW2:(w.drew.alloc (.cells cs.toArray e)).setRow w.heap.size (aK cs (0+k*sz') vs).toArray=W2 at hwr
    have hc1':(Builtin.copy_ #[t,t] ti #[.slice (some ⟨w.heap.size,0+k*sz',none⟩) (es.length+ys.length - k) (newCap - k),.slice (some ad) ys.length c']).run P (w.drew.alloc (.cells cs.toArray e))= .ok (goInt ys.length) W2:=by rw [<-hW2];exact hc1
    have hW2now:W2.drew.heap[w.heap.size]? =some (.cells (aK cs (0+k*sz') vs).toArray e (0,0)):=hwr.now
    have hW2b:W2.drew.heap[b]? =some (.cells c1 T (0,0)):=by
     show W2.heap[b]? =_
     rw [hwr.other b (by omega),hblk b hblt];exact hw
    have hle2:0+(k+ys.length)*sz'+(us.drop (k*sz')).length<=(aK cs (0+k*sz') vs).length:=by rw [bW hle1];omega
    have hc2:=BL (P:=P) (w:=W2.drew) (t:=t) (t':=t) (ty:=ti) h0 (by rw [hsz];exact hpos) (b:=w.heap.size) (o:=0+(k+ys.length)*sz') (dLen:=es.length+ys.length - (k+ys.length)) (dCap:=newCap - (k+ys.length)) (sLen:=es.length - k) (sCap:=c - k) (A:=some ⟨b,base+k*sz',none⟩) (us:=us.drop (k*sz')) (n:=es.length - k)
     (by simp only [Nat.min_def];split<;>omega) (by rw [hsz];exact hdl) (fun _=>⟨_,rfl,fun q u hq=>by
       rw [cg,eu hW2b,Nat.add_assoc]
       rw [List.getElem?_drop] at hq
       rw [hcells _ (List.getElem?_eq_some_iff.1 hq).1];exact hq⟩) (fun v hv=>hus.2.1 v (List.mem_of_mem_drop hv)) hW2now (by simpa using hle2)
    have hs2:(aK (aK cs (0+k*sz') vs) (0+(k+ys.length)*sz') (us.drop (k*sz'))).toArray.size=(aK cs (0+k*sz') vs).toArray.size:=by rw [List.size_toArray,bW hle2,List.size_toArray]
    have hwr2:=cq (w:=W2.drew) (c':=(aK (aK cs (0+k*sz') vs) (0+(k+ys.length)*sz') (us.drop (k*sz'))).toArray) hW2now hs2
    refine Calls.mono (W.grow w b base es.length c k ys.length c' (some ad) (by omega) hh.1 hm (by omega) hnm40 _ _ newCap _ _ g3 g1 hc1' hc2) fun e' w' he=> ?_
    obtain ⟨rfl,rfl⟩:=he
    have hsz2:W2.heap.size=w.heap.size+1:=by rw [hwr.size];show (w.heap.push _).size=_;simp
    refine GI (w:=w) (c:=(aK (aK cs (0+k*sz') vs) (0+(k+ys.length)*sz') (us.drop (k*sz'))).toArray) hok (by show W2.os=_;rw [<-hW2];rfl) (by show W2.tape=_;rw [<-hW2];rfl) (by show W2.output=_;rw [<-hW2];rfl) (hwr2.size.trans hsz2) (fun b' hb'=>(hwr2.other b' (by omega)).trans ((hwr.other b' (by omega)).trans (hblk b' hb'))) hwr2.now hall hys hk hus hvrows (fun q hq=> ?_) (fun q hq=> ?_) (fun q hq=> ?_) g1 (by rw [hs2,hs1];simp [hcsl])
    ·rw [Ct hle2 (.inl (by omega)),tu hle1 (.inl (by omega)),Nat.zero_add];exact hcs1 q hq
    ·rw [Ct hle2 (.inl (by omega)),xB hle1 hq]
    ·rw [Wd hle2 (by omega),List.getElem?_drop]
     congr 1;omega
 ·cases hr
end Go.AM
namespace Go.AM
open Go.RowKit
theorem enters_of {P:Program} {g:FuncId} {f:Func} (hg:P.funcs[g]? =some f) (hn:(f.name== "runtime.NumGoroutine")=false) (hb:f.body.isNone=false):Enters P g:=by
 intro args w
 unfold callFunc
 simp only [Sem.run_bind]
 have hp:(program).run P w= .ok P w:=rfl
 simp only [hp,Result.andThen_ok,hg,hn,hb,Bool.false_eq_true,if_false]
 rfl
section
variable {P:Program} {Γ:FuncId->Option FSig} {C:IV->List Nat->List (List IV)->Option (List IV)} {A:Ann}
def Nk (w:World) (ok:Nat->Prop) (caps:List IV) (cv:List Value):Prop:=caps.length=cv.length/\ ∀(i:Nat) (c:IV) (v:Value),caps[i]? =some c->cv[i]? =some v->RV w ok c v
theorem aw (hΓ:ak P Γ) (hC:COK P C) (hm:P.follows .mixedOrders=true) {g:FuncId} {f:Func} (hg:P.funcs[g]? =some f) (hb:(match f.body with | some c=>rq Γ A c | none=>false)=true)
  {caps:List IV} {cv:List Value} {W:World} {OK:Nat->Prop} (hcap:Nk W OK caps cv) {ns:List Nat} (hns:f.resultTypes.toList.map P.cellsOf=ns) {fn:List (List IV)->Option (List IV)} (hfn: ∀as r,fn as=some r->run P Γ C A f (as++caps.map fun c=>[c])=some r):PureAt P g cv ns fn W OK:=by
 intro w ok as args r hk hok hargs hr
 have hargs':bh w ok (as++caps.map fun c=>[c]) (args++cv):=by
  refine ⟨by simp [hargs.1,hcap.1],fun i c v h1 h2=> ?_⟩
  by_cases hi:i < as.length
  ·rw [List.getElem?_append_left hi] at h1
   rw [List.getElem?_append_left (by rw [<-hargs.1];exact hi)] at h2
   exact hargs.2 i c v h1 h2
  ·rw [List.getElem?_append_right (by omega),List.getElem?_map] at h1
   rw [List.getElem?_append_right (by rw [<-hargs.1];omega),<-hargs.1] at h2
   cases hc:caps[i - as.length]? with
   | none=>rw [hc] at h1;cases h1
   | some x=>
     rw [hc] at h1;cases h1
     exact .inl ⟨x,rfl,(hcap.2 _ x v hc h2).keeps hk⟩
 subst hns
 exact UE hΓ hC hm hg hb hok hargs' (hfn as r hr)
theorem iQ (hΓ:ak P Γ) (hC:COK P C) (hm:P.follows .mixedOrders=true) {g:FuncId} {f:Func} (hg:P.funcs[g]? =some f) (hb:(match f.body with | some c=>rq Γ A c | none=>false)=true)
  {ns:List Nat} (hns:f.resultTypes.toList.map P.cellsOf=ns) {sc:Bool} (hsc:A.scalar=sc) {fn:List (List IV)->Option (List IV)} (hfn: ∀as r,fn as=some r->run P Γ C A f as=some r):ah P g ⟨.pure,sc,ns,0,fn⟩:=by
 refine ⟨fun w ok=>aw hΓ hC hm hg hb (caps:=[]) (cv:=[]) ⟨rfl,fun i c v h=>by simp at h⟩ hns fun as r h=>by simpa using hfn as r h,fun h as r hr=> ?_⟩
 exact SG (hsc.trans h) (hfn as r hr)
end
theorem ak.nil {P:Program}:ak P fun _=>none:=fun g s h=>by cases h
theorem ak.ite {P:Program} {Γ:FuncId->Option FSig} {n:FuncId} {s:FSig} (h1:Enters P n/\ah P n s) (h2:ak P Γ):ak P fun f=>if f=n then some s else Γ f:=fun g s' h=>by
 have h:(if g=n then some s else Γ g)=some s':=h
 by_cases e:g=n
 ·subst e;rw [if_pos rfl] at h;cases h;exact h1
 ·rw [if_neg e] at h;exact h2 g s' h
theorem cok_none {P:Program}:COK P fun _ _ _=>none:=⟨fun x ns w ok v hv h=>(by obtain ⟨as,r,h⟩:=h;cases h),fun t name b y ns w ok u hu h=>(by obtain ⟨as,r,h⟩:=h;cases h)⟩
theorem eM {P:Program} {g:Nat} {ns:List Nat} {fn:List IV->List (List IV)->Option (List IV)} {rest:IV->List Nat->List (List IV)->Option (List IV)} (hen:Enters P g)
  (hp: ∀(caps:List IV) (cv:List Value) (w:World) (ok:Nat->Prop),Nk w ok caps cv->PureAt P g cv ns (fn caps) w ok) (hr:COK P rest):COK P (Fq g ns fn rest):=by
 refine ⟨fun x ns' w ok v hv h=> ?_,fun t name b y ns' w ok u hu h=> ?_⟩
 rotate_left
 ·have e:Fq g ns fn rest (.map [[.clo (.methodOf t name) [y],.bool b,.nilp]]) ns'=rest (.map [[.clo (.methodOf t name) [y],.bool b,.nilp]]) ns':=by funext l;rfl
  rw [e] at h ⊢
  exact hr.ifc t name b y ns' w ok u hu h
 have other:Fq g ns fn rest x ns'=rest x ns'-> ∃g' cv,v= .func (.func g') #[] cv/\Enters P g'/\PureAt P g' cv.toList ns' (Fq g ns fn rest x ns') w ok:=fun e=>by
  rw [e] at h ⊢
  exact hr.clo x ns' w ok v hv h
 cases hv with
 | clo f caps cv hlen hrel=>
   cases f with
   | func n=>
     by_cases e:n=g/\ns'=ns
     ·obtain ⟨rfl,rfl⟩:=e
      refine ⟨n,cv,rfl,hen,?_⟩
      have:Fq n ns' fn rest (.clo (.func n) caps) ns'=fn caps:=by funext l;simp [Fq]
      rw [this]
      exact hp caps cv.toList w ok ⟨by simpa using hlen,fun i c v h1 h2=>hrel i c v h1 (by rw [<-Array.getElem?_toList];exact h2)⟩
     ·exact other (by funext l;simp [Fq,e])
   | _=>exact other (by funext l;rfl)
 | _=>exact other (by funext l;rfl)
theorem lF {P:Program} {t:Nat} {name:String} {one:Bool} {ns:List Nat} {g:Nat} {fn:List IV->List (List IV)->Option (List IV)} {rest:IV->List Nat->List (List IV)->Option (List IV)}
  (hen: ∀u w',(callMethod (.iface t (ifV one u)) name #[]).run P w'= .ok (.enter g #[ifV one u]) w') (hp: ∀(y:IV) (u:Value) (w:World) (ok:Nat->Prop),RV w ok y u->PureAt P g [ifV one u] ns (fn [y]) w ok) (hr:COK P rest):COK P (xf t name one ns fn rest):=by
 refine ⟨fun x ns' w ok v hv h=> ?_,fun t' name' b y ns' w ok u hu h=> ?_⟩
 ·have other:xf t name one ns fn rest x ns'=rest x ns'-> ∃g' cv,v= .func (.func g') #[] cv/\Enters P g'/\PureAt P g' cv.toList ns' (xf t name one ns fn rest x ns') w ok:=fun e=>by
   rw [e] at h ⊢
   exact hr.clo x ns' w ok v hv h
  by_cases hx: ∃a b c,x= .map [[a,b,c]]
  ·obtain ⟨a,b,c,rfl⟩:=hx
   cases hv with
   | map _ b' me clock _ _ _ h2 _=>exact absurd (h2 [a,b,c] (by simp)) (by simp)
  ·refine other ?_
   funext l
   unfold xf
   split
   ·exact absurd ⟨_,_,_,rfl⟩ hx
   ·rfl
 ·by_cases e:t'=t/\name'=name/\ns'=ns/\b=one
  ·obtain ⟨rfl,rfl,rfl,rfl⟩:=e
   have:xf t' name' b ns' fn rest (.map [[.clo (.methodOf t' name') [y],.bool b,.nilp]]) ns'=fn [y]:=by funext l;simp [xf]
   rw [this]
   exact ⟨g,fun w'=>hen u w',hp y u w ok hu⟩
  ·have e':xf t name one ns fn rest (.map [[.clo (.methodOf t' name') [y],.bool b,.nilp]]) ns'=rest (.map [[.clo (.methodOf t' name') [y],.bool b,.nilp]]) ns':=by funext l;simp [xf,e]
   rw [e'] at h ⊢
   exact hr.ifc t' name' b y ns' w ok u hu h
end Go.AM
namespace Go.AM
open Go.RowKit
section
variable {P:Program} {Γ:FuncId->Option FSig} {C:IV->List Nat->List (List IV)->Option (List IV)} {A:Ann}
theorem zm {f:Func} {tmps:Array Value} {w:World} {ok:Nat->Prop} {r:List IV} {ns:List Nat} {vs:List Value} (h1:(f.results.toList.mapM (dF tmps)).run P w= .ok vs w) (h2:vs.length=ns.length) (hall:gZ w ok r ns 0 vs):
  ∃v,(results f tmps).run P w= .ok v w/\dI w ok ns r v:=by
 have hr:results f tmps=(do let vs <-f.results.mapM (dF tmps);pure (if h:vs.size=1 then vs[0] else .tuple vs)):=by
  unfold results
  congr 2
 have hm:(f.results.mapM (dF tmps)).run P w= .ok vs.toArray w:=by
  rw [Array.mapM_eq_mapM_toList,map_eq_pure_bind]
  simp only [Sem.run_bind,h1,Result.andThen_ok,Sem.run_pure]
 refine ⟨if h:vs.toArray.size=1 then vs.toArray[0] else .tuple vs.toArray,by rw [hr,Sem.run_bind,hm];rfl,?_⟩
 match ns,vs,h2,hall with
 | [n],[v],_,hall=>exact hall.1
 | [],[],_,_=>exact ⟨_,rfl,trivial⟩
 | n::m::ns,v::u::vs,_,hall=>
   unfold dI
   split
   ·rename_i heq;cases heq
   ·refine ⟨_,by rw [dif_neg (by simp)],by simpa using hall⟩
theorem GZ {W:World} {OK:Nat->Prop} {mu0:Mu} {p0:PV} {v0:Value} (h0:RP W OK mu0 p0 v0) {ps:List PV} {args:List Value} (hl:ps.length=args.length) (hrel: ∀(i:Nat) (p:PV) (v:Value),ps[i]? =some p->args[i]? =some v->RP W OK (fun _=>none) p v) (N:Nat):
  Fr W OK mu0 (p0::ps++List.replicate (N - (ps.length+1)) .skip) ((v0::args).toArray++Array.replicate (N - (v0::args).toArray.size) undef):=by
 have hlt:Later W OK (fun _=>none) W OK mu0:=⟨.refl _ _,fun o pl h=>(by cases h),.refl _⟩
 refine ⟨by simp [hl];omega,fun t p v h1 h2=> ?_⟩
 simp only [Array.getElem?_append,List.size_toArray] at h2
 by_cases hlt':t < args.length+1
 ·rw [List.getElem?_append_left (by simp;omega)] at h1
  rw [if_pos (by simpa using hlt')] at h2
  cases t with
  | zero=>simp at h1 h2;subst h1;subst h2;exact h0
  | succ t=>exact (hrel t p v (by simpa using h1) (by simpa using h2)).later hlt
 ·rw [List.getElem?_append_right (by simp;omega),List.getElem?_replicate] at h1
  rw [if_neg (by simpa using hlt'),Array.getElem?_replicate] at h2
  split at h1
  ·split at h2
   ·cases h1;cases h2;exact .skip
   ·cases h2
  ·cases h1
theorem CF (v0:Value) (args:List Value) (N:Nat):(((v0::args).toArray++Array.replicate (N - (v0::args).toArray.size) undef)[0]?).getD undef=v0:=by
 simp [Array.getElem?_append]
theorem TD {W:World} {OK:Nat->Prop} {ps:List PV} {args:List Value} (hl:ps.length=args.length) (hrel: ∀(i:Nat) (p:PV) (v:Value),ps[i]? =some p->args[i]? =some v->RP W OK (fun _=>none) p v) (N:Nat):
  Fr W OK (fun _=>none) (ps++List.replicate (N - ps.length) .skip) (args.toArray++Array.replicate (N - args.toArray.size) undef):=by
 refine ⟨by simp [hl],fun t p v h1 h2=> ?_⟩
 simp only [Array.getElem?_append,List.size_toArray] at h2
 by_cases hlt:t < args.length
 ·rw [List.getElem?_append_left (by omega)] at h1
  rw [if_pos hlt] at h2
  exact hrel t p v h1 (by simpa using h2)
 ·rw [List.getElem?_append_right (by omega),List.getElem?_replicate] at h1
  rw [if_neg hlt,Array.getElem?_replicate] at h2
  split at h1
  ·split at h2
   ·cases h1;cases h2;exact .skip
   ·cases h2
  ·cases h1
theorem NV {W:World} {OK:Nat->Prop} (hok: ∀b,OK b->b < W.heap.size) (lent:Nat->Prop):Inv W ⟨OK,lent⟩ W OK (fun _=>none) []:=
 ⟨.refl _ _ _,hok,fun b hb=> .inl hb,fun o pl ho=>(by cases ho),fun o pl b base ho=>(by cases ho),fun o o' pl pl' b base base' ho=>(by cases ho)⟩
theorem Dv {w:World} {ok:Nat->Prop} {mu:Mu} {h:List Ob} (iq:InvQ w ok mu h) {n:Nat} {p:PV} {v:Value} (r:RP w ok mu p v) {cs:List IV} (hr:qn n p h=some cs):cs.length=n/\ ∀(l:List IV) (i:Nat),(∀j,j < n->nth l (i+j)=nth cs j)->mT w (fX ok mu (fu h p)) n l i v:=by
 unfold qn at hr
 split at hr
 ·rename_i hok
  obtain ⟨ls,h1,h2⟩:=Option.bind_eq_some_iff.1 hr
  split at h2
  ·rename_i hn
   cases h2
   refine ⟨hn,fun l i hl=> ?_⟩
   rcases wJ iq r hok h1 with ⟨x,e,hx⟩ | ⟨h3,vs,e,h4,h5⟩
   ·subst e
    have hn1:n=1:=by rw [<-hn];rfl
    refine .inl ⟨hn1,?_⟩
    have:=hl 0 (by omega)
    rw [Nat.add_zero] at this
    rw [this];exact hx
   ·refine .inr ⟨by omega,vs,e,by omega,fun j u hu=> ?_⟩
    have hj:j < n:=by have:=(Array.getElem?_eq_some_iff.1 hu).1;omega
    rw [hl j hj]
    exact h5 j _ u (by rw [Fu (by omega)]) hu
  ·cases h2
 ·cases hr
theorem gZ.sub {w:World} {ok ok':Nat->Prop} (hm: ∀b,ok b->ok' b) {r:List IV} {ns:List Nat} {i:Nat} {vs:List Value} (h:gZ w ok r ns i vs):gZ w ok' r ns i vs:=gZ.more hm h
theorem GU {w:World} {ok:Nat->Prop} {mu:Mu} {w0:World} {ok0:O0} {st:St} {a:Act} (hcf:Cfg w0 ok0 w ok mu st a): ∀(rs:List ResultVar) (ns:List Nat) (cs:List IV),H7 P st rs ns=some cs-> ∃vs,(rs.mapM (dF a.tmps)).run P w= .ok vs w/\vs.length=rs.length/\rs.length=ns.length/\
  ∀(l:List IV) (i:Nat),(∀j,j < cs.length->nth l (i+j)=nth cs j)->gZ w (fX ok mu (kp P st rs)) l ns i vs
 | [],[],cs,h=>by
   simp only [H7,Option.some.injEq] at h
   subst h
   exact ⟨[],by simp,rfl,rfl,fun l i _=>trivial⟩
 | [],_::_,cs,h=>by simp [H7] at h
 | .tmp _::_,[],cs,h=>by simp [H7] at h
 | .cell _ _::_,[],cs,h=>by simp [H7] at h
 | .cell x t::rs,n::ns,cs,h=>by
   simp only [H7] at h
   split at h
   ·rename_i y ys hx hxs
    cases h
    obtain ⟨p,hp,hq⟩:=Option.bind_eq_some_iff.1 hx
    obtain ⟨v,hv,r⟩:=wu (P:=P) hcf hp
    obtain ⟨hn,h1⟩:=Dv hcf.inv.q r hq
    obtain ⟨vs,h2,h3,h4,h5⟩:=GU hcf rs ns ys hxs
    have hrr:kp P st (.cell x t::rs)=fu st.h p++kp P st rs:=by simp only [kp,hp]
    rw [hrr]
    refine ⟨v::vs,?_,by simp [h3],by simp [h4],fun l i hl=>⟨(h1 l i fun j hj=> ?_).more fun b hb=>fX.sub (fun q hq=>List.mem_append_left _ hq) hb,(h5 l (i+n) fun j hj=> ?_).sub fun b hb=>fX.sub (fun q hq=>List.mem_append_right _ hq) hb⟩⟩
    ·have hv':(dF a.tmps (.cell x t)).run P w= .ok v w:=hv
     simp only [List.mapM_cons,Sem.run_bind,hv',h2,Sem.run_pure,Result.andThen_ok]
    ·rw [hl j (by simp;omega),gA (by omega)]
    ·have:=hl (n+j) (by simp;omega)
     rw [show i+n+j=i+(n+j) by omega,this,<-hn,jg]
   ·cases h
 | .tmp t::rs,n::ns,cs,h=>by
   simp only [H7] at h
   split at h
   ·rename_i x xs hx hxs
    cases h
    have r:RP w ok mu (st.fr.getD t .undef) (a.tmps.getD t undef):=hcf.fr.ev (.tmp t)
    obtain ⟨hn,h1⟩:=Dv hcf.inv.q r hx
    obtain ⟨vs,h2,h3,h4,h5⟩:=GU hcf rs ns xs hxs
    refine ⟨a.tmps.getD t undef::vs,?_,by simp [h3],by simp [h4],fun l i hl=>⟨(h1 l i fun j hj=> ?_).more fun b hb=>fX.sub (fun q hq=>List.mem_append_left _ hq) hb,(h5 l (i+n) fun j hj=> ?_).sub fun b hb=>fX.sub (fun q hq=>List.mem_append_right _ hq) hb⟩⟩
    ·simp only [List.mapM_cons,dF,Sem.run_bind,h2,Sem.run_pure,Result.andThen_ok]
    ·rw [hl j (by simp;omega),gA (by omega)]
    ·have:=hl (n+j) (by simp;omega)
     rw [show i+n+j=i+(n+j) by omega,this,<-hn,jg]
   ·cases h
theorem Ss (hΓ:ak P Γ) (hC:COK P C) (hm:P.follows .mixedOrders=true) {g:FuncId} {f:Func} (hg:P.funcs[g]? =some f) (hb:(match f.body with | some c=>rq Γ A c | none=>false)=true) {W:World} {OK:Nat->Prop} (hok: ∀b,OK b->b < W.heap.size)
  {shp:List Sc} {vs:List IV} {v0:Value} {pl:Pl} {pA:Nat->Pl} (tv:ObjVal W OK shp vs v0 pl pA) (hin: ∀b,ObjLoc shp pl pA b->b < W.heap.size)
  {as:List (List IV)} {args:List Value} (hargs:bh W OK as args) {r:List IV} (hr:runM P Γ C A shp f vs as=some r):
  Calls P g (v0::args).toArray W fun e w'=> ∃v ok' pA',e= .returned v/\w'.os=W.os/\w'.tape=W.tape/\w'.output=W.output/\W.heap.size<=w'.heap.size/\Sizes W w'/\
   (∀b,b < W.heap.size-> ¬ObjLoc shp pl pA b->w'.heap[b]? =W.heap[b]?)/\(∀b,OK b->ok' b)/\(∀b,ok' b->OK b\/(W.heap.size<=b/\b < w'.heap.size)\/ObjBuf shp pA b)/\ObjVal w' ok' shp r v0 pl pA'/\
   (∀b,ObjBuf shp pA' b->(W.heap.size<=b/\b < w'.heap.size)\/ObjBuf shp pA b)/\dI w' ok' (f.resultTypes.toList.map P.cellsOf) (r.drop shp.length) v:=by
 unfold runM at hr
 split at hr
 ·rename_i c ps hc hps
  rw [hc] at hb
  split at hr
  ·rename_i hcond
   obtain ⟨hvl,hw0⟩:=hcond
   obtain ⟨hl,hrel⟩:=eL _ _ _ _ _ hps hargs.1 hargs.2
   obtain ⟨b0,base0,c0,T0,hl0,hv0,_⟩:=tv.box
   obtain ⟨mu0,hinv,hfr,_,hmu1,_⟩:=(NV hok (fun b=>ObjLoc shp pl pA b)).addObj (fun _ _=>rfl) (r:=vs) (i0:=0) tv (fun j _=>by rw [Nat.zero_add]) fun b hb=>⟨.inr hb,hin b hb,fun o p' base' h=>by cases h⟩
   simp only [List.nil_append,List.length_nil,Nat.zero_add] at hinv hfr hmu1
   refine calls_of_wp hg hc (ng (w0:=W) (ok0:=⟨OK,fun b=>ObjLoc shp pl pA b⟩) hΓ hC hm c hb _ _ _ r hr (fun _ _=>rfl) _ W OK mu0 ⟨hinv,hfr,GZ (by rw [hv0];exact .ptr shp.length 0 pl b0 base0 hmu1 hl0) hl hrel f.ntmps⟩ _ fun e st' a' w' ok' mu' hk hcf hst=> ?_)
   have done:(match qK st'.h (kp P st' f.results.toList) with | some h1=>(match z8 h1 shp (st'.fr.getD 0 .undef),H7 P st' f.results.toList (f.resultTypes.toList.map P.cellsOf) with | some p,some r=>some (p.1++r) | _,_=>none) | none=>none)=some r->a'.defers=[]/\ ∃v,(results f a'.tmps).run P w'= .ok v w'/\ ∃v_1 ok' pA',Ending.returned v= .returned v_1/\w'.os=W.os/\w'.tape=W.tape/\w'.output=W.output/\W.heap.size<=w'.heap.size/\Sizes W w'/\
         (∀b,b < W.heap.size-> ¬ObjLoc shp pl pA b->w'.heap[b]? =W.heap[b]?)/\(∀b,OK b->ok' b)/\(∀b,ok' b->OK b\/(W.heap.size<=b/\b < w'.heap.size)\/ObjBuf shp pA b)/\ObjVal w' ok' shp r v0 pl pA'/\
         (∀b,ObjBuf shp pA' b->(W.heap.size<=b/\b < w'.heap.size)\/ObjBuf shp pA b)/\dI w' ok' (f.resultTypes.toList.map P.cellsOf) (r.drop shp.length) v_1:=by
     intro h
     split at h
     rotate_left
     ·cases h
     rename_i h1 hfz
     split at h
     ·rename_i p rs hp hrr
      cases h
      obtain ⟨vs',os⟩:=p
      have hinv2:=hcf.inv.freeze hcf.fresh hfz
      have hlz:Later w' ok' mu' w' (fX ok' mu' (kp P st' f.results.toList)) mu':=⟨⟨fun _ _=>rfl,fun _ h=> .inl h⟩,fun _ _ h=>h,.refl _⟩
      have hv0':a'.tmps.getD 0 undef=v0:=by
       have:=hst.same 0 (by simpa using hw0)
       rw [Array.getD_eq_getD_getElem?,this]
       exact CF _ _ _
      have hrp:RP w' (fX ok' mu' (kp P st' f.results.toList)) mu' (st'.fr.getD 0 .undef) v0:=by
       have:RP w' ok' mu' (st'.fr.getD 0 .undef) (a'.tmps.getD 0 undef):=hcf.fr.ev (.tmp 0)
       rw [hv0'] at this
       exact this.later hlz
      obtain ⟨_,q0,hq0,_⟩:=xF hp
      rw [hq0] at hp hrp
      obtain ⟨pl2,pA',hm2,tv2,hlen',hrw,hqos,hA⟩:=rZ hinv2 hp hrp
      have hpl2:pl.loc=pl2.loc:=by
       obtain ⟨b2,base2,c2,T2,e1,e2,_⟩:=tv2.box
       rw [hv0] at e2
       simp only [Value.pointer.injEq,Option.some.injEq,Addr.mk.injEq] at e2
       rw [hl0,e1,e2.1,e2.2.1]
      have tv':=tv2.at hpl2
      obtain ⟨us,g1,g2,g3,g4⟩:=GU (P:=P) hcf _ _ _ hrr
      have hdrop:(vs'++rs).drop shp.length=rs:=by rw [<-hlen',List.drop_left]
      obtain ⟨v,k1,k2⟩:=zm (f:=f) (ok:=fX ok' mu' (kp P st' f.results.toList)) (r:=rs) g1 (g2.trans g3) (g4 rs 0 fun j _=>by rw [Nat.zero_add])
      refine ⟨hst.defers,v,k1,v,fX ok' mu' (kp P st' f.results.toList),pA',rfl,hcf.inv.below.os,hcf.inv.below.tape,hcf.inv.below.output,hcf.inv.below.size,hst.later.sizes,fun b hb h1=>hcf.inv.below.block b hb h1,fun b hb=> .inl (hst.later.keeps.more b hb),fun b hb=> ?_,tv'.congr fun j hj=> ?_,fun b hb=> ?_,by rw [hdrop];exact k2⟩
      ·rcases hinv2.okb b hb with h | h | h
       ·exact .inl h
       ·exact .inr (.inl ⟨h,hinv2.okw b hb⟩)
       ·rcases h with h | h
        ·exact absurd hb (tv'.free b (.inl h))
        ·exact .inr (.inr h)
      ·rw [gA (by show j < vs'.length;omega)]
      ·obtain ⟨k,hk2,_,plq,base,g5,g6⟩:=hA b hb
       obtain ⟨e1,e2,_⟩:=hinv2.own k plq b base g5 g6
       rcases e1 with e1 | e1
       ·exact .inl ⟨e1,e2⟩
       ·rcases e1 with ⟨base2,e1⟩ | e1
        ·exact absurd hb (tv'.apart b base2 e1)
        ·exact .inr e1
     ·cases h
   cases e with
   | normal=>exact done hk
   | exit j=>cases hk
   | goto l=>cases hk
   | ret=>exact done hk
  ·cases hr
 ·cases hr
theorem kB (hΓ:ak P Γ) (hC:COK P C) (hm:P.follows .mixedOrders=true) {g:FuncId} {f:Func} (hg:P.funcs[g]? =some f) (hb:(match f.body with | some c=>rq Γ A c | none=>false)=true)
  {ns:List Nat} (hns:f.resultTypes.toList.map P.cellsOf=ns) {shp:List Sc} {fn:List (List IV)->Option (List IV)} (hfn: ∀vs as r,vs.length=shp.length->fn (vs::as)=some r->runM P Γ C A shp f vs as=some r) (hnil: ∀as r,fn ([.nilp]::as)=some r->run P Γ C A f ([.nilp]::as)=some r):ah P g ⟨.obj shp,false,ns,0,fn⟩:=by
 subst hns
 refine ⟨fun w ok as vs v0 pl pA args r hok hlen tv hin hargs hr=>Ss hΓ hC hm hg hb hok tv hin hargs (hfn vs as r hlen hr),fun w ok=>aw hΓ hC hm hg hb (caps:=[]) (cv:=[]) ⟨rfl,fun i c v h=>by simp at h⟩ rfl fun as r h=> ?_⟩
 split at h
 ·simpa using hnil _ r h
 ·cases h
theorem SM (hΓ:ak P Γ) (hC:COK P C) (hm:P.follows .mixedOrders=true) {g:FuncId} {f:Func} (hg:P.funcs[g]? =some f) (hb:(match f.body with | some c=>rq Γ A c | none=>false)=true) {W:World} {OK:Nat->Prop} (hok: ∀b,OK b->b < W.heap.size)
  {shp:List Sc} {as:List (List IV)} {args:List Value} (hargs:bh W OK as args) {r:List IV} (hr:runN P Γ C A shp f as=some r):
  Calls P g args.toArray W fun e w'=> ∃v ok' pl pA,e= .returned v/\Below W.heap.size W w'/\(∀b,OK b->ok' b)/\(∀b,ok' b->OK b\/(W.heap.size<=b/\b < w'.heap.size))/\ObjVal w' ok' shp r v pl pA/\
    ∀b,ObjLoc shp pl pA b->W.heap.size<=b/\b < w'.heap.size:=by
 unfold runN at hr
 split at hr
 ·rename_i c ps hc hps
  rw [hc] at hb
  obtain ⟨hl,hrel⟩:=eL _ _ _ _ _ hps hargs.1 hargs.2
  refine calls_of_wp hg hc (ng (w0:=W) (ok0:=⟨OK,fun _=>False⟩) hΓ hC hm c hb _ _ _ r hr (fun _ _=>rfl) _ W OK (fun _=>none) ⟨NV hok _,fun _ _=>rfl,TD hl hrel f.ntmps⟩ _ fun e st' a' w' ok' mu' hk hcf hst=> ?_)
  have done:(match f.results.toList with | [.tmp t]=>(z8 st'.h shp (st'.fr.getD t .undef)).map (·.1) | _=>none)=some r->a'.defers=[]/\ ∃v,(results f a'.tmps).run P w'= .ok v w'/\ ∃v_1 ok' pl pA,Ending.returned v= .returned v_1/\Below W.heap.size W w'/\(∀b,OK b->ok' b)/\(∀b,ok' b->OK b\/(W.heap.size<=b/\b < w'.heap.size))/\ObjVal w' ok' shp r v_1 pl pA/\
    ∀b,ObjLoc shp pl pA b->W.heap.size<=b/\b < w'.heap.size:=by
   intro h
   split at h
   ·rename_i t ht
    obtain ⟨⟨vs',os⟩,hp,rfl⟩:=Option.map_eq_some_iff.1 h
    have rp:RP w' ok' mu' (st'.fr.getD t .undef) (a'.tmps.getD t undef):=hcf.fr.ev (.tmp t)
    obtain ⟨_,q,hq,_⟩:=xF hp
    rw [hq] at hp rp
    obtain ⟨pl,pA,hm2,tv,hlen',hrw,hqos,hA⟩:=rZ hcf.inv hp rp
    have hres:(results f a'.tmps).run P w'= .ok (a'.tmps.getD t undef) w':=by
     have hm3:(f.results.mapM (dF a'.tmps)).run P w'= .ok #[a'.tmps.getD t undef] w':=by
      rw [Array.mapM_eq_mapM_toList,map_eq_pure_bind,ht]
      simp only [List.mapM_cons,List.mapM_nil,dF,Sem.run_bind,Sem.run_pure,Result.andThen_ok]
     have hr2:results f a'.tmps=(do let vs <-f.results.mapM (dF a'.tmps);pure (if h:vs.size=1 then vs[0] else .tuple vs)):=by
      unfold results
      congr 2
     rw [hr2,Sem.run_bind,hm3]
     rfl
    refine ⟨hst.defers,_,hres,_,ok',pl,pA,rfl,hcf.inv.below.below fun _ h=>h,hst.later.keeps.more,fun b hb=> ?_,tv,fun b hb=> ?_⟩
    ·rcases hcf.inv.okb b hb with h | h | h
     ·exact .inl h
     ·exact .inr ⟨h,hcf.inv.okw b hb⟩
     ·exact h.elim
    ·have key: ∀k plq base,mu' k=some plq->plq.loc=some (b,base)->W.heap.size<=b/\b < w'.heap.size:=fun k plq base h1 h2=>by
      obtain ⟨e1,e2,_⟩:=hcf.inv.own k plq b base h1 h2
      rcases e1 with e1 | e1
      ·exact ⟨e1,e2⟩
      ·exact e1.elim
     rcases hb with ⟨base,hb⟩ | hb
     ·exact key q pl base hm2 hb
     ·obtain ⟨k,_,_,plq,base,g1,g2⟩:=hA b hb
      exact key k plq base g1 g2
   ·cases h
  cases e with
  | normal=>exact done hk
  | exit j=>cases hk
  | goto l=>cases hk
  | ret=>exact done hk
 ·cases hr
theorem sig_mko (hΓ:ak P Γ) (hC:COK P C) (hm:P.follows .mixedOrders=true) {g:FuncId} {f:Func} (hg:P.funcs[g]? =some f) (hb:(match f.body with | some c=>rq Γ A c | none=>false)=true)
  {ns:List Nat} {shp:List Sc} {fn:List (List IV)->Option (List IV)} (hfn: ∀as r,fn as=some r->runN P Γ C A shp f as=some r):ah P g ⟨.mko shp,false,ns,0,fn⟩:=
 fun w ok as args r hok hargs hr=>SM hΓ hC hm hg hb hok hargs (hfn as r hr)
theorem PO (hΓ:ak P Γ) (hC:COK P C) (hm:P.follows .mixedOrders=true) {g:FuncId} {f:Func} (hg:P.funcs[g]? =some f) (hb:(match f.body with | some c=>rq Γ A c | none=>false)=true) {W:World} {OK:Nat->Prop} (hok: ∀b,OK b->b < W.heap.size)
  {sz:Nat} {x:IV} {v0:Value} {pl:Pl} (hov:OwnVal W OK sz x v0 pl) (hno: ∀b base,pl.loc=some (b,base)-> ¬OK b) (hin: ∀b base,pl.loc=some (b,base)->b < W.heap.size)
  (hnz: ∀A cap,v0= .slice A pl.len cap-> ¬(pl.len=0/\cap=0)) {as:List (List IV)} {args:List Value} (hargs:bh W OK as args) {r:List IV} (hr:R7 P Γ C A sz f x as=some r):
  Calls P g (v0::args).toArray W fun e w'=> ∃v,e= .returned v/\w'.os=W.os/\w'.tape=W.tape/\w'.output=W.output/\W.heap.size<=w'.heap.size/\Sizes W w'/\
   (∀b,b < W.heap.size->(∀base,pl.loc≠some (b,base))->w'.heap[b]? =W.heap[b]?)/\ ∃ok',(∀b,OK b->ok' b)/\(∀b,ok' b->OK b\/(W.heap.size<=b/\b < w'.heap.size))/\ObOk w' ok' (fun _=>none) pl (.arr .rw sz (nth r 0)):=by
 unfold R7 at hr
 split at hr
 ·rename_i c ps hc hps
  rw [hc] at hb
  split at hr
  ·rename_i hcond
   obtain ⟨hl,hrel⟩:=eL _ _ _ _ _ hps hargs.1 hargs.2
   have hmu0:(fun q:Nat=>if q=0 then some pl else none) 0=some pl:=by simp
   have hcase: ∀q pq,(if q=0 then some pl else none)=some pq->q=0/\pq=pl:=fun q pq h=>by
    split at h
    ·cases h;exact ⟨‹_›,rfl⟩
    ·cases h
   have hinv:Inv W ⟨OK,fun b=> ∃base,pl.loc=some (b,base)⟩ W OK (fun q=>if q=0 then some pl else none) [.arr .rw sz x]:=by
    refine ⟨.refl _ _ _,hok,fun b hb=> .inl hb,fun q pq h=> ?_,fun q pq b base h hlq=> ?_,fun q q' pq pq' b base base' h h' hlq hlq' _ _=> ?_⟩
    ·obtain ⟨rfl,rfl⟩:=hcase q pq h
     exact hov.ob
    ·obtain ⟨rfl,rfl⟩:=hcase q pq h
     exact ⟨.inr ⟨base,hlq⟩,hin b base hlq,fun _ _=>hno b base hlq⟩
    ·rw [(hcase q pq h).1,(hcase q' pq' h').1]
   refine calls_of_wp hg hc (ng (w0:=W) (ok0:=⟨OK,fun b=> ∃base,pl.loc=some (b,base)⟩) hΓ hC hm c hb _ _ _ r hr (fun _ _=>rfl) _ W OK (fun q=>if q=0 then some pl else none) ⟨hinv,fun q hq=> ?_,GZ (sw hov hmu0) hl hrel f.ntmps⟩ _ fun e st' a' w' ok' mu' hk hcf hst=> ?_)
   ·simp at hq
    show (if q=0 then some pl else none)=none
    rw [if_neg (by omega)]
   ·have done:(match st'.fr.getD 0 .undef with | .buf o _=>(match getOb st'.h o with | .arr .rw sz' y=>if sz'=sz then some [y] else none | _=>none) | _=>none)=some r->a'.defers=[]/\ ∃v,(results f a'.tmps).run P w'= .ok v w'/\ ∃v_1,Ending.returned v= .returned v_1/\w'.os=W.os/\w'.tape=W.tape/\w'.output=W.output/\W.heap.size<=w'.heap.size/\Sizes W w'/\
      (∀b,b < W.heap.size->(∀base,pl.loc≠some (b,base))->w'.heap[b]? =W.heap[b]?)/\ ∃ok',(∀b,OK b->ok' b)/\(∀b,ok' b->OK b\/(W.heap.size<=b/\b < w'.heap.size))/\ObOk w' ok' (fun _=>none) pl (.arr .rw sz (nth r 0)):=by
     intro h
     split at h
     ·rename_i o l hfo
      split at h
      ·rename_i sz' y hgy
       split at h
       ·rename_i hsz
        subst hsz
        cases h
        have hv0':a'.tmps.getD 0 undef=v0:=by
         have:=hst.same 0 (by simpa using hcond.2)
         rw [Array.getD_eq_getD_getElem?,this]
         exact CF _ _ _
        have hrp:RP w' ok' mu' (.buf o l) v0:=by
         have:RP w' ok' mu' (st'.fr.getD 0 .undef) (a'.tmps.getD 0 undef):=hcf.fr.ev (.tmp 0)
         rwa [hv0',hfo] at this
        obtain ⟨A0,cap0,hv,hh0,hc0⟩:=hov.hdr
        rw [hv] at hrp
        cases hrp with
        | buf _ _ _ _ pl2 hm2 hn2 hh2 hc2=>
          have hob:=hcf.inv.ob o pl2 hm2
          rw [hgy] at hob
          have hkey:pl.loc=pl2.loc\/(pl.len=0/\cap0=0):=by
           rcases hh0.2 with h1 | ⟨b,base,h1,h2⟩
           ·exact .inr h1
           ·rcases hh2.2 with h3 | ⟨b',base',h3,h4⟩
            ·exact .inr h3
            ·left
             rw [h2] at h4
             simp only [Option.some.injEq,Addr.mk.injEq,Nat.zero_mul,Nat.add_zero] at h4
             rw [h1,h3,h4.1,h4.2.1]
          have hno': ∀b base,pl2.loc=some (b,base)-> ¬ok' b:=fun b base hb=>(hcf.inv.own o pl2 b base hm2 hb).2.2 (by rw [hgy];rfl) (by rw [hgy];rfl)
          have harr2:=hob.arrC hc2
          have hpos2:=hob.posC hc2
          obtain ⟨p1,es0,p2,p3,_⟩:=hov.arr
          obtain ⟨q1,es,q2,q3,q4,q5,q6⟩:=harr2
          obtain ⟨v,k1,k2⟩:=zm (P:=P) (f:=f) (tmps:=a'.tmps) (w:=w') (ok:=ok') (r:=[]) (ns:=[]) (vs:=[]) (by
           have:f.results.toList=[]:=by rw [<-List.length_eq_zero_iff];simpa using hcond.1
           rw [this];rfl) rfl trivial
          have hbel: ∀b,b < W.heap.size->(∀base,pl.loc≠some (b,base))->w'.heap[b]? =W.heap[b]? :=fun b hb h1=>hcf.inv.below.block b hb fun ⟨base,h⟩=>h1 base h
          rcases hkey with hkey | ⟨hz1,hz2⟩
          ·refine ⟨hst.defers,v,k1,v,rfl,hcf.inv.below.os,hcf.inv.below.tape,hcf.inv.below.output,hcf.inv.below.size,hst.later.sizes,hbel,ok',hst.later.keeps.more,fun b hb=> ?_,.inl ⟨hpos2,p1,es,q2,q3.trans hn2.symm,q4,by rw [hkey];exact q5,by rw [hkey];exact q6⟩⟩
           rcases hcf.inv.okb b hb with h | h | ⟨base,h⟩
           ·exact .inl h
           ·exact .inr ⟨h,hcf.inv.okw b hb⟩
           ·exact absurd hb (hno' b base (hkey▸h))
          ·exact absurd ⟨hz1,hz2⟩ (hnz A0 cap0 hv)
       ·cases h
      ·cases h
     ·cases h
    cases e with
    | normal=>exact done hk
    | exit j=>cases hk
    | goto l=>cases hk
    | ret=>exact done hk
  ·cases hr
 ·cases hr
theorem Q1 (hΓ:ak P Γ) (hC:COK P C) (hm:P.follows .mixedOrders=true) {g:FuncId} {f:Func} (hg:P.funcs[g]? =some f) (hb:(match f.body with | some c=>rq Γ A c | none=>false)=true) {W:World} {OK:Nat->Prop} (hok: ∀b,OK b->b < W.heap.size)
  {sz:Nat} {x:IV} {v0:Value} {pl:Pl} (hov:OwnVal W OK sz x v0 pl) (hno: ∀b base,pl.loc=some (b,base)-> ¬OK b) (hin: ∀b base,pl.loc=some (b,base)->b < W.heap.size)
  {A0:Option Addr} {cap0:Nat} (hv:v0= .slice A0 pl.len cap0) (hc0: ∀b base,pl.loc=some (b,base)-> ∃(c:Array Value) (T:TypeId) (z:Nat×Nat),W.heap[b]? =some (.cells c T z)/\base+cap0*pl.sz<=c.size) (hz1:pl.len=0) (hz2:cap0=0) {as:List (List IV)} {args:List Value} (hargs:bh W OK as args) {r:List IV} (hr:R7 P Γ C A sz f x as=some r):
  Calls P g (v0::args).toArray W fun e w'=> ∃v,e= .returned v/\w'.os=W.os/\w'.tape=W.tape/\w'.output=W.output/\W.heap.size<=w'.heap.size/\Sizes W w'/\
   (∀b,b < W.heap.size->(∀base,pl.loc≠some (b,base))->w'.heap[b]? =W.heap[b]?)/\ ∃ok',(∀b,OK b->ok' b)/\(∀b,ok' b->OK b\/(W.heap.size<=b/\b < w'.heap.size))/\ObOk w' ok' (fun _=>none) pl (.arr .rw sz (nth r 0)):=by
 unfold R7 at hr
 split at hr
 ·rename_i c ps hc hps
  rw [hc] at hb
  split at hr
  ·rename_i hcond
   obtain ⟨hl,hrel⟩:=eL _ _ _ _ _ hps hargs.1 hargs.2
   have hcase: ∀q pq,(if q=0 then some (⟨none,0,sz⟩:Pl) else none)=some pq->q=0/\pq=⟨none,0,sz⟩:=fun q pq h=>by
    split at h
    ·cases h;exact ⟨‹_›,rfl⟩
    ·cases h
   obtain ⟨p1,es0,rfl,p3,_⟩:=hov.arr
   have hes0:es0=[]:=List.length_eq_zero_iff.1 (by rw [p3];exact hz1)
   subst hes0
   have hposz:0 < sz:=hov.ob.posC (p:=fun b base c=>base+cap0*pl.sz<=c.size) hc0
   have hinv:Inv W ⟨OK,fun _=>False⟩ W OK (fun q=>if q=0 then some (⟨none,0,sz⟩:Pl) else none) [.arr .rw sz (.lst [])]:=by
    refine ⟨.refl _ _ _,hok,fun b hb=> .inl hb,fun q pq h=> ?_,fun q pq b base h hlq=> ?_,fun q q' pq pq' b base base' h h' hlq hlq' _ _=> ?_⟩
    ·obtain ⟨rfl,rfl⟩:=hcase q pq h
     exact .inl ⟨hposz,rfl,[],rfl,rfl,by simp,fun _=>rfl,fun b base hb=>by cases hb⟩
    ·obtain ⟨rfl,rfl⟩:=hcase q pq h
     cases hlq
    ·rw [(hcase q pq h).1,(hcase q' pq' h').1]
   have hrp0:RP W OK (fun q=>if q=0 then some (⟨none,0,sz⟩:Pl) else none) (.buf 0 (bQ (.lst []))) v0:=by
    rw [hv,hz1,hz2]
    show RP W OK _ (.buf 0 0) _
    exact .buf 0 0 A0 0 ⟨none,0,sz⟩ (by simp) rfl ⟨Nat.le_refl _,.inl ⟨rfl,rfl⟩⟩ fun b base hb=>by cases hb
   refine calls_of_wp hg hc (ng (w0:=W) (ok0:=⟨OK,fun _=>False⟩) hΓ hC hm c hb _ _ _ r hr (fun _ _=>rfl) _ W OK (fun q=>if q=0 then some (⟨none,0,sz⟩:Pl) else none) ⟨hinv,fun q hq=> ?_,GZ hrp0 hl hrel f.ntmps⟩ _ fun e st' a' w' ok' mu' hk hcf hst=> ?_)
   ·simp at hq
    show (if q=0 then some (⟨none,0,sz⟩:Pl) else none)=none
    rw [if_neg (by omega)]
   ·have done:(match st'.fr.getD 0 .undef with | .buf o _=>(match getOb st'.h o with | .arr .rw sz' y=>if sz'=sz then some [y] else none | _=>none) | _=>none)=some r->a'.defers=[]/\ ∃v,(results f a'.tmps).run P w'= .ok v w'/\ ∃v_1,Ending.returned v= .returned v_1/\w'.os=W.os/\w'.tape=W.tape/\w'.output=W.output/\W.heap.size<=w'.heap.size/\Sizes W w'/\
      (∀b,b < W.heap.size->(∀base,pl.loc≠some (b,base))->w'.heap[b]? =W.heap[b]?)/\ ∃ok',(∀b,OK b->ok' b)/\(∀b,ok' b->OK b\/(W.heap.size<=b/\b < w'.heap.size))/\ObOk w' ok' (fun _=>none) pl (.arr .rw sz (nth r 0)):=by
     intro h
     split at h
     ·rename_i o l hfo
      split at h
      ·rename_i sz' y hgy
       split at h
       ·rename_i hsz
        subst hsz
        cases h
        have hv0':a'.tmps.getD 0 undef=v0:=by
         have:=hst.same 0 (by simpa using hcond.2)
         rw [Array.getD_eq_getD_getElem?,this]
         exact CF _ _ _
        have hrp:RP w' ok' mu' (.buf o l) v0:=by
         have:RP w' ok' mu' (st'.fr.getD 0 .undef) (a'.tmps.getD 0 undef):=hcf.fr.ev (.tmp 0)
         rwa [hv0',hfo] at this
        rw [hv] at hrp
        cases hrp with
        | buf _ _ _ _ pl2 hm2 hn2 hh2 hc2=>
          have hob:=hcf.inv.ob o pl2 hm2
          rw [hgy] at hob
          obtain ⟨q1,es,q2,q3,_⟩:=hob.arrC hc2
          obtain ⟨v,k1,k2⟩:=zm (P:=P) (f:=f) (tmps:=a'.tmps) (w:=w') (ok:=ok') (r:=[]) (ns:=[]) (vs:=[]) (by
           have:f.results.toList=[]:=by rw [<-List.length_eq_zero_iff];simpa using hcond.1
           rw [this];rfl) rfl trivial
          have hbel: ∀b,b < W.heap.size->w'.heap[b]? =W.heap[b]? :=fun b hb=>hcf.inv.below.block b hb fun h=>h
          have hes:es=[]:=List.length_eq_zero_iff.1 (by omega)
          refine ⟨hst.defers,v,k1,v,rfl,hcf.inv.below.os,hcf.inv.below.tape,hcf.inv.below.output,hcf.inv.below.size,hst.later.sizes,fun b hb _=>hbel b hb,OK,fun _ h=>h,fun _ h=> .inl h,.inl ⟨hposz,p1,[],by rw [q2,hes];rfl,by rw [hz1];rfl,by simp,fun _=>rfl,fun b base hb=> ?_⟩⟩
          obtain ⟨_,es',e1,_,_,_,e2⟩:=hov.arr
          obtain ⟨c0,T0,h7,h8,_⟩:=e2 b base hb
          cases e1
          exact ⟨c0,T0,(hbel b (hin b base hb)).trans h7,h8,fun i j e x he=>by simp at he⟩
       ·cases h
      ·cases h
     ·cases h
    cases e with
    | normal=>exact done hk
    | exit j=>cases hk
    | goto l=>cases hk
    | ret=>exact done hk
  ·cases hr
 ·cases hr
theorem Tx (hΓ:ak P Γ) (hC:COK P C) (hm:P.follows .mixedOrders=true) {g:FuncId} {f:Func} (hg:P.funcs[g]? =some f) (hb:(match f.body with | some c=>rq Γ A c | none=>false)=true) {W:World} {OK:Nat->Prop} (hok: ∀b,OK b->b < W.heap.size)
  {sz:Nat} {x:IV} {v0:Value} {pl:Pl} (hov:OwnVal W OK sz x v0 pl) (hno: ∀b base,pl.loc=some (b,base)-> ¬OK b) (hin: ∀b base,pl.loc=some (b,base)->b < W.heap.size)
  {as:List (List IV)} {args:List Value} (hargs:bh W OK as args) {r:List IV} (hr:R7 P Γ C A sz f x as=some r):
  Calls P g (v0::args).toArray W fun e w'=> ∃v,e= .returned v/\w'.os=W.os/\w'.tape=W.tape/\w'.output=W.output/\W.heap.size<=w'.heap.size/\Sizes W w'/\
   (∀b,b < W.heap.size->(∀base,pl.loc≠some (b,base))->w'.heap[b]? =W.heap[b]?)/\ ∃ok',(∀b,OK b->ok' b)/\(∀b,ok' b->OK b\/(W.heap.size<=b/\b < w'.heap.size))/\ObOk w' ok' (fun _=>none) pl (.arr .rw sz (nth r 0)):=by
 obtain ⟨A0,cap0,hv,hh0,hc0⟩:=hov.hdr
 by_cases hz:pl.len=0/\cap0=0
 ·exact Q1 hΓ hC hm hg hb hok hov hno hin hv hc0 hz.1 hz.2 hargs hr
 ·refine PO hΓ hC hm hg hb hok hov hno hin (fun A cap h h2=>hz ?_) hargs hr
  rw [hv] at h
  cases h
  exact h2
theorem Wz (hΓ:ak P Γ) (hC:COK P C) (hm:P.follows .mixedOrders=true) {g:FuncId} {f:Func} (hg:P.funcs[g]? =some f) (hb:(match f.body with | some c=>rq Γ A c | none=>false)=true)
  {ns:List Nat} {sz:Nat} {fn:List (List IV)->Option (List IV)} (hfn: ∀x as r,fn ([x]::as)=some r->R7 P Γ C A sz f x as=some r):ah P g ⟨.inpl,false,ns,sz,fn⟩:=
 fun w ok as x v0 pl args r hok hov hno hargs hr=>Tx hΓ hC hm hg hb hok hov hno (fun b base hl=>by
  obtain ⟨_,_,_,_,hc⟩:=hov.hdr
  obtain ⟨c,T,z,h1,_⟩:=hc b base hl
  exact (Array.getElem?_eq_some_iff.1 h1).1) hargs (hfn x as r hr)
theorem SJ (hΓ:ak P Γ) (hC:COK P C) (hm:P.follows .mixedOrders=true) {g:FuncId} {f:Func} (hg:P.funcs[g]? =some f) (hb:(match f.body with | some c=>rq Γ A c | none=>false)=true) {W:World} {OK:Nat->Prop} (hok: ∀b,OK b->b < W.heap.size)
  {sz:Nat} {as:List (List IV)} {args:List Value} (hargs:bh W OK as args) {r:List IV} (hr:Tj P Γ C A sz f as=some r):
  Calls P g args.toArray W fun e w'=> ∃v pl,e= .returned v/\Below W.heap.size W w'/\OwnVal w' (fun _=>False) sz (nth r 0) v pl/\ ∀b base,pl.loc=some (b,base)->W.heap.size<=b/\b < w'.heap.size:=by
 unfold Tj at hr
 split at hr
 ·rename_i c ps hc hps
  rw [hc] at hb
  obtain ⟨hl,hrel⟩:=eL _ _ _ _ _ hps hargs.1 hargs.2
  refine calls_of_wp hg hc (ng (w0:=W) (ok0:=⟨OK,fun _=>False⟩) hΓ hC hm c hb _ _ _ r hr (fun _ _=>rfl) _ W OK (fun _=>none) ⟨⟨.refl _ _ _,hok,fun b hb=> .inl hb,fun o pl ho=>(by cases ho),fun o pl b base ho=>(by cases ho),fun o o' pl pl' b base base' ho=>(by cases ho)⟩,fun _ _=>rfl,TD hl hrel f.ntmps⟩ _ fun e st' a' w' ok' mu' hk hcf hst=> ?_)
  have done:(match f.results.toList with | [.tmp t]=>(vZ st'.h sz (st'.fr.getD t .undef)).bind fun p=>if j7 p.1=true then some [p.1] else none | _=>none)=some r->a'.defers=[]/\ ∃v,(results f a'.tmps).run P w'= .ok v w'/\ ∃v_1 pl,Ending.returned v= .returned v_1/\Below W.heap.size W w'/\OwnVal w' (fun _=>False) sz (nth r 0) v_1 pl/\ ∀b base,pl.loc=some (b,base)->W.heap.size<=b/\b < w'.heap.size:=by
   intro h
   split at h
   ·rename_i t ht
    obtain ⟨⟨x,os⟩,hp,h2⟩:=Option.bind_eq_some_iff.1 h
    split at h2
    ·rename_i hfl
     cases h2
     have rp:RP w' ok' mu' (st'.fr.getD t .undef) (a'.tmps.getD t undef):=hcf.fr.ev (.tmp t)
     obtain ⟨plA,k1,k2,k3,k4,k5⟩:=H9 hcf.inv hp rp
     have hres:(results f a'.tmps).run P w'= .ok (a'.tmps.getD t undef) w':=by
      have hm3:(f.results.mapM (dF a'.tmps)).run P w'= .ok #[a'.tmps.getD t undef] w':=by
       rw [Array.mapM_eq_mapM_toList,map_eq_pure_bind,ht]
       simp only [List.mapM_cons,List.mapM_nil,dF,Sem.run_bind,Sem.run_pure,Result.andThen_ok]
      have hr2:results f a'.tmps=(do let vs <-f.results.mapM (dF a'.tmps);pure (if h:vs.size=1 then vs[0] else .tuple vs)):=by
       unfold results
       congr 2
      rw [hr2,Sem.run_bind,hm3]
      rfl
     have rb:=k3 (fun q=>if q=0 then some plA else none) 0 (by simp)
     refine ⟨hst.defers,_,hres,_,plA,rfl,hcf.inv.below.below fun _ h=>h,⟨.inl ⟨k1,?_⟩,?_⟩,fun b base hb=> ?_⟩
     ·obtain ⟨q1,es,q2,q3,q4,q5,q6⟩:=k2
      have hx:x= .lst es:=q2
      subst hx
      refine ⟨q1,es,rfl,q3,q4,q5,fun b base hb=> ?_⟩
      obtain ⟨cc,T,q7,q8,q9⟩:=q6 b base hb
      refine ⟨cc,T,q7,q8,fun i j e y he hy=> ?_⟩
      obtain ⟨u,q10,q11⟩:=q9 i j e y he hy
      refine ⟨u,q10,q11.scalar ?_⟩
      have h1:=List.all_eq_true.1 hfl e (List.mem_of_getElem? he)
      exact List.all_eq_true.1 h1 y (List.mem_of_getElem? hy)
     ·generalize a'.tmps.getD t undef=v at rb
      obtain ⟨_,es,q2,q3,_⟩:=k2
      have hx:x= .lst es:=q2
      have hll:bQ x=plA.len:=by rw [hx];exact q3
      cases rb with
      | buf _ _ A cap pl' hm hn hh hc=>
        simp at hm;subst hm
        rw [hll] at hh ⊢
        exact ⟨A,cap,rfl,hh,hc⟩
     ·obtain ⟨q,hq⟩:=List.exists_mem_of_ne_nil _ (k5 b base hb)
      obtain ⟨_,plq,g1,g2⟩:=k4 q hq
      obtain ⟨e1,e2,_⟩:=hcf.inv.own q plq b base g1 (g2.trans hb)
      rcases e1 with e1 | e1
      ·exact ⟨e1,e2⟩
      ·exact e1.elim
    ·cases h2
   ·cases h
  cases e with
  | normal=>exact done hk
  | exit j=>cases hk
  | goto l=>cases hk
  | ret=>exact done hk
 ·cases hr
theorem xJ (hΓ:ak P Γ) (hC:COK P C) (hm:P.follows .mixedOrders=true) {g:FuncId} {f:Func} (hg:P.funcs[g]? =some f) (hb:(match f.body with | some c=>rq Γ A c | none=>false)=true)
  {ns:List Nat} {sz:Nat} {fn:List (List IV)->Option (List IV)} (hfn: ∀as r,fn as=some r->Tj P Γ C A sz f as=some r):ah P g ⟨.fresh,false,ns,sz,fn⟩:=
 fun w ok as args r hok hargs hr=>SJ hΓ hC hm hg hb hok hargs (hfn as r hr)
end
theorem Qr {P:Program} {g:FuncId} {sc:Bool} {esz:Nat} {ns:List Nat} {fn fn':List (List IV)->Option (List IV)} (h:ah P g ⟨.own,sc,ns,esz,fn⟩) (hfn: ∀as r,fn' as=some r->fn as=some r):ah P g ⟨.pure,false,[1],0,fn'⟩:=by
 refine ⟨fun W OK w ok as args r _ hok hargs hr=> ?_,fun h=>by cases h⟩
 rw [List.append_nil]
 refine Calls.mono (h w ok as args r hok hargs (hfn as r hr)) fun e w' he=> ?_
 obtain ⟨v,pl,rfl,hb,hov,hloc⟩:=he
 refine ⟨v,rfl,hb,.inl ⟨rfl,?_⟩⟩
 have iq:InvQ w' ok (fun q=>if q=0 then some pl else none) [.arr .rw esz (nth r 0)]:=by
  have hcase: ∀q pq,(if q=0 then some pl else none)=some pq->q=0/\pq=pl:=fun q pq h=>by
   split at h
   ·cases h;exact ⟨‹_›,rfl⟩
   ·cases h
  refine ⟨fun b hb'=>Nat.lt_of_lt_of_le (hok b hb') hb.size,fun q pq hq=> ?_,fun q pq b base hq hl=> ?_⟩
  ·obtain ⟨rfl,rfl⟩:=hcase q pq hq;exact hov.ob
  ·obtain ⟨rfl,rfl⟩:=hcase q pq hq;exact (hloc b base hl).2
 refine (l7 iq 5 (.buf 0 (bQ (nth r 0))) (nth r 0) v rfl (sw hov (by simp))).more fun b hb'=> ?_
 rcases hb' with hb' | ⟨q,_,pq,base,h1,h2⟩
 ·exact .inl hb'
 ·simp at h1
  obtain ⟨_,rfl⟩:=h1
  exact .inr (hloc b base h2)
end Go.AM
namespace Go.AM
open Go.RowKit
section
variable {P:Program} {Γ:FuncId->Option FSig} {C:IV->List Nat->List (List IV)->Option (List IV)} {A:Ann} {ops:Array Oper} {R S:Type}
theorem vD {o:Oper} {st:St} (k:St->Option R) (f:R->Option S):(qO P Γ C ops o st k).bind f=qO P Γ C ops o st fun st=>(k st).bind f:=by
 unfold qO
 simp only
 split
 ·rw [vR]
 ·split
  ·rfl
  ·split
   ·rw [Co]
    congr 1<;>funext _<;>split<;>first | rw [vR] | rfl
   ·rfl
   ·rfl
theorem xi: ∀(l:List Oper) (st:St) (k:St->Option R) (f:R->Option S),(jh P Γ C ops l st k).bind f=jh P Γ C ops l st fun st=>(k st).bind f
 | [],st,k,f=>rfl
 | o::l,st,k,f=>by
   simp only [jh]
   rw [vD]
   congr 1
   funext st'
   exact xi l st' k f
theorem Dg {ok:Oper->List PV->Bool}: ∀(l:List Oper) (st:St) (k:St->Option R) (f:R->Option S),(oC P Γ C ok ops l st k).bind f=oC P Γ C ok ops l st fun st=>(k st).bind f
 | [],st,k,f=>rfl
 | o::l,st,k,f=>by
   simp only [oC]
   split
   ·rw [vD]
    congr 1
    funext st'
    exact Dg l st' k f
   ·rfl
theorem zR {ok:Oper->List PV->Bool}: ∀(l:List Oper) (st:St) (k:St->Option R) (f:R->Option S),(nk P Γ C ok ops l st k).bind f=nk P Γ C ok ops l st fun st=>(k st).bind f
 | [],st,k,f=>rfl
 | o::l,st,k,f=>by
   simp only [nk]
   split
   ·split
    ·exact zR l _ k f
    ·rfl
   ·split
    ·rw [vD]
     congr 1
     funext st'
     exact zR l st' k f
    ·rfl
theorem SW {ord:Option (List Nat×List Nat×List Nat)} {st:St} (k:St->Option R) (f:R->Option S):(oh P Γ C ord ops st k).bind f=oh P Γ C ord ops st fun st=>(k st).bind f:=by
 unfold oh
 split
 ·exact xi _ _ _ _
 ·rw [Dg]
  congr 1;funext st1
  rw [zR]
  congr 1;funext st2
  rw [Dg]
theorem TK {α:Type} {k:Nat} {l:List α} {g:α->Option R} (f:R->Option S):(iA k (l.map g)).bind f=iA k (l.map fun x=>(g x).bind f):=by
 unfold iA
 rw [List.getD_eq_getElem?_getD,List.getD_eq_getElem?_getD,List.getElem?_map,List.getElem?_map]
 cases l[k]? <;>rfl
theorem lN: ∀(c:Code) (R S:Type) (st:St) (K:Ex->St->Option R) (f:R->Option S),(exec P Γ C A c R st K).bind f=exec P Γ C A c S st fun e st=>(K e st).bind f:=by
 intro c
 induction c with
 | seq x y ihx ihy=>
   intro R S st K f
   simp only [exec]
   rw [ihx]
   congr 1;funext e st'
   cases e with
   | normal=>exact ihy R S st' K f
   | _=>rfl
 | block id x ih=>
   intro R S st K f
   simp only [exec]
   rw [ih]
   congr 1;funext e st'
   cases e with
   | exit j=>simp only;split<;>rfl
   | _=>rfl
 | scope x ih=>
   intro R S st K f
   simp only [exec]
   rw [ih]
   congr 1;funext e st'
   cases e<;>rfl
 | cond x y z ihy ihz=>
   intro R S st K f
   simp only [exec]
   split
   ·rw [Co]
    congr 1<;>funext _
    ·exact ihy R S st K f
    ·exact ihz R S st K f
   ·rfl
 | region id ops draw=>
   intro R S st K f
   simp only [exec]
   split
   ·rw [SW]
   ·rw [Option.bind_assoc]
 | loop x ih=>
   intro R S st K f
   simp only [exec]
   split
   ·generalize A.unroll (au x)=n
    induction n generalizing st with
    | zero=>rfl
    | succ n ihn=>
      simp only [Zr]
      rw [ih]
      congr 1;funext e st'
      cases e with
      | normal=>exact ihn st'
      | _=>rfl
   split
   ·split
    ·rfl
    ·rw [Option.bind_assoc]
     congr 1;funext p
     rw [TK]
   ·rfl
 | _=>intro R S st K f;simp [exec]
theorem Kw: ∀(c:Code) (R S:Type) (st:St) (K:Ex->St->Option R) (f:R->Option S),(cy P Γ C A c R st K).bind f=cy P Γ C A c S st fun e st=>(K e st).bind f:=by
 intro c
 induction c with
 | seq x y _ ihy=>
   intro R S st K f
   by_cases hx: ∃l',x= .label l'
   ·obtain ⟨l',rfl⟩:=hx
    simp only [cy]
    split
    ·unfold Hs
     simp only
     split
     ·split
      ·rfl
      ·rw [Option.bind_assoc]
       congr 1;funext p
       rw [TK]
     ·rfl
    ·exact lN _ _ _ _ _ _
   ·have h1: ∀(T:Type) (K:Ex->St->Option T),cy P Γ C A (.seq x y) T st K=exec P Γ C A x T st (fun e st'=>match e with | .normal=>cy P Γ C A y T st' K | e=>K e st'):=fun T K=>by
     cases x<;>first | exact absurd ⟨_,rfl⟩ hx | rfl
    rw [h1,h1,lN]
    congr 1;funext e st'
    cases e with
    | normal=>exact ihy R S st' K f
    | _=>rfl
 | _=>intro R S st K f;exact lN _ _ _ _ _ _
theorem Pf: ∀(c:Code) (R S:Type) (st:St) (K:Ex->St->Option R) (f:R->Option S),(de P Γ C A c R st K).bind f=de P Γ C A c S st fun e st=>(K e st).bind f:=by
 intro c
 induction c with
 | seq x y _ ihy=>
   intro R S st K f
   simp only [de]
   rw [lN]
   congr 1;funext e st'
   cases e with
   | normal=>exact ihy R S st' K f
   | _=>rfl
 | scope b _=>
   intro R S st K f
   simp only [de]
   split
   ·exact Kw _ _ _ _ _ _
   ·exact lN _ _ _ _ _ _
 | _=>intro R S st K f;exact lN _ _ _ _ _ _
theorem oX {k:St->Option R} {r:R}: ∀(l:List Oper) (st:St),jh P Γ C ops l st k=some r-> ∃st',Stay st.h st'.h/\k st'=some r
 | [],st,h=>⟨st,.refl _,h⟩
 | o::l,st,h=>by
   simp only [jh] at h
   obtain ⟨b,_,hc⟩:=cp h
   rcases hc with ⟨_,p,h',h1,h2⟩ | ⟨_,h2⟩
   ·obtain ⟨st',h3,h4⟩:=oX l _ h2
    exact ⟨st',(nf h1).trans h3,h4⟩
   ·obtain ⟨st',h3,h4⟩:=oX l _ h2
    exact ⟨st',h3,h4⟩
theorem tz {ok:Oper->List PV->Bool} {k:St->Option R} {r:R}: ∀(l:List Oper) (st:St),oC P Γ C ok ops l st k=some r-> ∃st',Stay st.h st'.h/\k st'=some r
 | [],st,h=>⟨st,.refl _,h⟩
 | o::l,st,h=>by
   simp only [oC] at h
   split at h
   ·obtain ⟨b,_,hc⟩:=cp h
    rcases hc with ⟨_,p,h',h1,h2⟩ | ⟨_,h2⟩
    ·obtain ⟨st',h3,h4⟩:=tz l _ h2
     exact ⟨st',(nf h1).trans h3,h4⟩
    ·obtain ⟨st',h3,h4⟩:=tz l _ h2
     exact ⟨st',h3,h4⟩
   ·cases h
theorem qp {ok:Oper->List PV->Bool} {k:St->Option R} {r:R}: ∀(l:List Oper) (st:St),nk P Γ C ok ops l st k=some r-> ∃st',Stay st.h st'.h/\k st'=some r
 | [],st,h=>⟨st,.refl _,h⟩
 | o::l,st,h=>by
   simp only [nk] at h
   split at h
   ·split at h
    ·obtain ⟨st',h3,h4⟩:=qp l _ h
     exact ⟨st',h3,h4⟩
    ·cases h
   ·split at h
    ·obtain ⟨b,_,hc⟩:=cp h
     rcases hc with ⟨_,p,h',h1,h2⟩ | ⟨_,h2⟩
     ·obtain ⟨st',h3,h4⟩:=qp l _ h2
      exact ⟨st',(nf h1).trans h3,h4⟩
     ·obtain ⟨st',h3,h4⟩:=qp l _ h2
      exact ⟨st',h3,h4⟩
    ·cases h
theorem Q9 {ord:Option (List Nat×List Nat×List Nat)} {k:St->Option R} {r:R} {st:St} (h:oh P Γ C ord ops st k=some r): ∃st',Stay st.h st'.h/\k st'=some r:=by
 unfold oh at h
 split at h
 ·exact oX _ _ h
 ·obtain ⟨st1,h1,h⟩:=tz _ _ h
  obtain ⟨st2,h2,h⟩:=qp _ _ h
  obtain ⟨st3,h3,h⟩:=tz _ _ h
  exact ⟨st3,(h1.trans h2).trans h3,h⟩
theorem LG {st:St} {L:List (Nat×Kd)} {h1:List Ob} (hf:qK st.h (aM st L)=some h1) (hm:jv st h1 L=true) (vs:List IV) (L':List (Nat×Kd)) (hk: ∀o∈rz L',o∈taken st L) (fr:List PV):Stay st.h (unpack vs L' 0 ⟨fr,kill h1 (taken st L)⟩).h:=by
 have hlen:=(dx hf).len
 have hB:Stay st.h (kill h1 (taken st L)):=⟨by rw [dQ,hlen];exact Nat.le_refl _,fun o ho hnr=>by
  have h2:=(gP hf).keep o ho hnr
  rw [j8,if_neg fun e=>by
   simp only [jv,Bool.and_eq_true,List.all_eq_true] at hm
   have:=hm.2 o e
   rw [h2,hnr] at this;cases this]
  exact h2⟩
 obtain ⟨hn1,hn2⟩:=th vs L' 0 ⟨fr,kill h1 (taken st L)⟩
 refine ⟨Nat.le_trans hB.len hn1,fun o ho hnr=> ?_⟩
 rw [hn2 o (Nat.lt_of_lt_of_le ho hB.len) fun hin=> ?_]
 ·exact hB.keep o ho hnr
 ·simp only [jv,Bool.and_eq_true,List.all_eq_true] at hm
  have:=hm.2 o (hk o hin)
  rw [(gP hf).keep o ho hnr,hnr] at this;cases this
theorem QV {st:St} {p:List (Nat×Kd)×List (List (Nat×Kd))} {vs:List IV} (hp:pack st p.1=some vs) (hk:XY p=true) (n:Nat): ∀o∈rz (p.2.getD n []),o∈taken st p.1:=fun o ho=>by
 rw [List.getD_eq_getElem?_getD] at ho
 cases hx:p.2[n]? with
 | none=>rw [hx] at ho;cases ho
 | some L'=>
   rw [hx] at ho
   have h9:=List.all_eq_true.1 (List.all_eq_true.1 hk L' (List.mem_of_getElem? hx)) o ho
   exact ph hp o (by simpa using h9)
theorem ji: ∀(c:Code) (R:Type) (st:St) (K:Ex->St->Option R) (r:R),exec P Γ C A c R st K=some r-> ∃e st',Stay st.h st'.h/\K e st'=some r:=by
 intro c
 induction c with
 | skip=>intro R st K r h;exact ⟨_,_,.refl _,h⟩
 | label l=>intro R st K r h;exact ⟨_,_,.refl _,h⟩
 | ret=>intro R st K r h;exact ⟨_,_,.refl _,h⟩
 | exit id=>intro R st K r h;exact ⟨_,_,.refl _,h⟩
 | goto l=>intro R st K r h;exact ⟨_,_,.refl _,h⟩
 | seq x y ihx ihy=>
   intro R st K r h
   simp only [exec] at h
   obtain ⟨e,st',h1,h2⟩:=ihx R st _ r h
   cases e with
   | normal=>
     obtain ⟨e2,st2,h3,h4⟩:=ihy R st' K r h2
     exact ⟨e2,st2,h1.trans h3,h4⟩
   | exit id=>exact ⟨_,_,h1,h2⟩
   | ret=>exact ⟨_,_,h1,h2⟩
   | goto l=>exact ⟨_,_,h1,h2⟩
 | block id x ih=>
   intro R st K r h
   simp only [exec] at h
   obtain ⟨e,st',h1,h2⟩:=ih R st _ r h
   cases e with
   | normal=>exact ⟨_,_,h1,h2⟩
   | exit j=>simp only at h2;split at h2<;>exact ⟨_,_,h1,h2⟩
   | ret=>exact ⟨_,_,h1,h2⟩
   | goto l=>exact ⟨_,_,h1,h2⟩
 | scope x ih=>
   intro R st K r h
   simp only [exec] at h
   obtain ⟨e,st',h1,h2⟩:=ih R st _ r h
   cases e with
   | goto l=>cases h2
   | _=>exact ⟨_,_,h1,h2⟩
 | cond x y z ihy ihz=>
   intro R st K r h
   simp only [exec] at h
   split at h
   ·rcases kQ h with ⟨_,h1⟩ | ⟨_,h1⟩
    ·exact ihy R st K r h1
    ·exact ihz R st K r h1
   ·cases h
 | region id ops draw=>
   intro R st K r h
   simp only [exec] at h
   split at h
   ·obtain ⟨st',h1,h2⟩:=Q9 h;exact ⟨_,_,h1,h2⟩
   ·obtain ⟨lv,_,h2⟩:=Option.bind_eq_some_iff.1 h;exact ⟨.normal,⟨sq lv _ 0 (forget st.fr (dsts ops.toList)),st.h⟩,Stay.refl st.h,h2⟩
 | loop x ih=>
   intro R st K r h
   simp only [exec] at h
   split at h
   ·generalize A.unroll (au x)=n at h
    induction n generalizing st with
    | zero=>cases h
    | succ n ihn=>
      simp only [Zr] at h
      obtain ⟨e,st',h1,h2⟩:=ih _ _ _ _ h
      cases e with
      | normal=>
        obtain ⟨e2,st2,h3,h4⟩:=ihn _ h2
        exact ⟨e2,st2,h1.trans h3,h4⟩
      | _=>exact ⟨_,_,h1,h2⟩
   split at h
   ·rename_i vs0 h1 hp hf
    split at h
    ·cases h
    ·rename_i hm
     obtain ⟨p,_,h2⟩:=Option.bind_eq_some_iff.1 h
     obtain ⟨e,h3⟩:=HU h2
     simp only [Bool.not_eq_false,Bool.and_eq_true] at hm
     exact ⟨_,_,LG hf hm.1 _ _ (QV hp hm.2 _) _,h3⟩
   ·cases h
 | _=>intro R st K r h;simp [exec] at h
theorem GO: ∀(c:Code) (R:Type) (st:St) (K:Ex->St->Option R) (r:R),cy P Γ C A c R st K=some r-> ∃e st',Stay st.h st'.h/\K e st'=some r:=by
 intro c
 induction c with
 | seq x y _ ihy=>
   intro R st K r h
   by_cases hx: ∃l',x= .label l'
   ·obtain ⟨l',rfl⟩:=hx
    simp only [cy] at h
    split at h
    ·unfold Hs at h
     simp only at h
     split at h
     ·rename_i vs0 h1 hp hf
      split at h
      ·cases h
      ·rename_i hm
       obtain ⟨p,_,h2⟩:=Option.bind_eq_some_iff.1 h
       obtain ⟨e,h3⟩:=HU h2
       simp only [Bool.not_eq_false,Bool.and_eq_true] at hm
       exact ⟨_,_,LG hf hm.1 _ _ (QV hp hm.2 _) _,h3⟩
     ·cases h
    ·exact ji _ _ _ _ _ h
   ·have h':exec P Γ C A x R st (fun e st'=>match e with | .normal=>cy P Γ C A y R st' K | e=>K e st')=some r:=by
     cases x<;>first | exact absurd ⟨_,rfl⟩ hx | exact h
    obtain ⟨e,st',h1,h2⟩:=ji _ _ _ _ _ h'
    cases e with
    | normal=>
      obtain ⟨e2,st2,h3,h4⟩:=ihy R st' K r h2
      exact ⟨e2,st2,h1.trans h3,h4⟩
    | _=>exact ⟨_,_,h1,h2⟩
 | _=>intro R st K r h;exact ji _ _ _ _ _ h
theorem Ng: ∀(c:Code) (R:Type) (st:St) (K:Ex->St->Option R) (r:R),de P Γ C A c R st K=some r-> ∃e st',Stay st.h st'.h/\K e st'=some r:=by
 intro c
 induction c with
 | seq x y _ ihy=>
   intro R st K r h
   simp only [de] at h
   obtain ⟨e,st',h1,h2⟩:=ji _ _ _ _ _ h
   cases e with
   | normal=>
     obtain ⟨e2,st2,h3,h4⟩:=ihy R st' K r h2
     exact ⟨e2,st2,h1.trans h3,h4⟩
   | _=>exact ⟨_,_,h1,h2⟩
 | scope b _=>
   intro R st K r h
   simp only [de] at h
   split at h
   ·exact GO _ _ _ _ _ h
   ·exact ji _ _ _ _ _ h
 | _=>intro R st K r h;exact ji _ _ _ _ _ h
end
theorem Tl (P:Program) (Γ:FuncId->Option FSig) (C:IV->List Nat->List (List IV)->Option (List IV)) (A:Ann) (f:Func) (R S:Type) (ps:List PV) (h:List Ob) (k:PV->List Ob->Option R) (g:R->Option S):
  (p4 P Γ C A f R ps h k).bind g=p4 P Γ C A f S ps h fun p h=>(k p h).bind g:=by
 unfold p4
 split
 ·rw [Pf]
  congr 1;funext e st
  cases e with
  | exit j=>rfl
  | goto l=>rfl
  | normal=>simp only;rw [Option.bind_assoc]
  | ret=>simp only;rw [Option.bind_assoc]
 ·rfl
theorem Pw (P:Program) (Γ:FuncId->Option FSig) (C:IV->List Nat->List (List IV)->Option (List IV)) (A:Ann) (f:Func) (ps:List PV) (h:List Ob) (p:PV) (h':List Ob)
  (hr:p4 P Γ C A f (PV×List Ob) ps h (fun p h=>some (p,h))=some (p,h')):Stay h h':=by
 unfold p4 at hr
 split at hr
 ·obtain ⟨e,st,h1,h2⟩:=Ng _ _ _ _ _ hr
  cases e with
  | exit j=>cases h2
  | goto l=>cases h2
  | normal=>obtain ⟨ps',_,h3⟩:=Option.bind_eq_some_iff.1 h2;cases h3;exact h1
  | ret=>obtain ⟨ps',_,h3⟩:=Option.bind_eq_some_iff.1 h2;cases h3;exact h1
 ·cases hr
def kI (P:Program) (Γ:FuncId->Option FSig) (C:IV->List Nat->List (List IV)->Option (List IV)) (A:Ann) (f:Func):Inl:=⟨p4 P Γ C A f,Tl P Γ C A f,Pw P Γ C A f⟩
section
variable {P:Program} {Γ:FuncId->Option FSig} {C:IV->List Nat->List (List IV)->Option (List IV)} {A:Ann} {w0:World} {ok0:O0} {w:World} {ok:Nat->Prop} {mu:Mu} {st:St} {a:Act}
theorem Bt (c:Cfg w0 ok0 w ok mu st a): ∀(rs:List ResultVar) (ps:List PV),K2 P st rs=some ps-> ∃vs,(rs.mapM (dF a.tmps)).run P w= .ok vs w/\vs.length=rs.length/\ps.length=rs.length/\
  ∀(j:Nat) (p:PV) (v:Value),ps[j]? =some p->vs[j]? =some v->RP w ok mu p v
 | [],ps,h=>by
   simp only [K2,Option.some.injEq] at h
   subst h
   exact ⟨[],rfl,rfl,rfl,fun j p v h _=>by simp at h⟩
 | .tmp t::rs,ps,h=>by
   simp only [K2] at h
   obtain ⟨ps',h0,rfl⟩:=Option.map_eq_some_iff.1 h
   obtain ⟨vs,h1,h2,h3,h4⟩:=Bt c rs ps' h0
   have r:RP w ok mu (st.fr.getD t .undef) (a.tmps.getD t undef):=c.fr.ev (.tmp t)
   refine ⟨a.tmps.getD t undef::vs,?_,by simp [h2],by simp [h3],fun j p v h5 h6=> ?_⟩
   ·simp only [List.mapM_cons,dF,Sem.run_bind,h1,Sem.run_pure,Result.andThen_ok]
   ·cases j with
    | zero=>simp at h5 h6;subst h5;subst h6;simpa [Array.getD_eq_getD_getElem?] using r
    | succ j=>exact h4 j p v (by simpa using h5) (by simpa using h6)
 | .cell x t::rs,ps,h=>by
   simp only [K2] at h
   split at h
   ·rename_i p0 ps' hx hps
    cases h
    obtain ⟨vs,h1,h2,h3,h4⟩:=Bt c rs ps' hps
    obtain ⟨v0,hv,r⟩:=wu (P:=P) c hx
    have hv':(dF a.tmps (.cell x t)).run P w= .ok v0 w:=hv
    refine ⟨v0::vs,?_,by simp [h2],by simp [h3],fun j p v h5 h6=> ?_⟩
    ·simp only [List.mapM_cons,Sem.run_bind,hv',h1,Sem.run_pure,Result.andThen_ok]
    ·cases j with
     | zero=>simp at h5 h6;subst h5;subst h6;exact r
     | succ j=>exact h4 j p v (by simpa using h5) (by simpa using h6)
   ·cases h
theorem aE (hΓ:ak P Γ) (hC:COK P C) (hm:P.follows .mixedOrders=true) {g:FuncId} {f:Func} (hg:P.funcs[g]? =some f) (hb:(match f.body with | some c=>rq Γ A c | none=>false)=true) {sc:Bool} {ns:List Nat} {esz:Nat} {fn:List (List IV)->Option (List IV)}:
  ah P g ⟨.inl (kI P Γ C A f),sc,ns,esz,fn⟩:=by
 intro w0 ok0 w ok mu h ps args p h' i hfresh hlen hrel hr
 have hr':p4 P Γ C A f (PV×List Ob) ps h (fun p h=>some (p,h))=some (p,h'):=hr
 unfold p4 at hr'
 split at hr'
 ·rename_i c hc
  rw [hc] at hb
  have hfr:Fr w ok mu (ps++List.replicate (f.ntmps - ps.length) .skip) (args.toArray++Array.replicate (f.ntmps - args.toArray.size) undef):=by
   refine ⟨by simp [hlen],fun t p v h1 h2=> ?_⟩
   simp only [Array.getElem?_append,List.size_toArray] at h2
   by_cases hlt:t < args.length
   ·rw [List.getElem?_append_left (by omega)] at h1
    rw [if_pos hlt] at h2
    exact hrel t p v h1 (by simpa using h2)
   ·rw [List.getElem?_append_right (by omega),List.getElem?_replicate] at h1
    rw [if_neg hlt,Array.getElem?_replicate] at h2
    split at h1
    ·split at h2
     ·cases h1;cases h2;exact .skip
     ·cases h2
    ·cases h1
  refine calls_of_wp hg hc (ng (w0:=w0) (ok0:=ok0) hΓ hC hm c hb _ _ _ (p,h') hr' (fun _ _=>rfl) _ w ok mu ⟨i,hfresh,hfr⟩ _ fun e st' a' w' ok' mu' hk hcf hst=> ?_)
  have done:(K2 P st' f.results.toList).bind (fun ps=>some (VX ps,st'.h))=some (p,h')->a'.defers=[]/\ ∃v,(results f a'.tmps).run P w'= .ok v w'/\ ∃v_1,Ending.returned v= .returned v_1/\ ∃ok' mu',Later w ok mu w' ok' mu'/\Inv w0 ok0 w' ok' mu' h'/\RP w' ok' mu' p v_1/\ ∀q,h'.length<=q->mu' q=none:=by
   intro h
   obtain ⟨rs,h1,h2⟩:=Option.bind_eq_some_iff.1 h
   cases h2
   obtain ⟨vs,g1,g2,g3,g4⟩:=Bt (P:=P) hcf _ _ h1
   have hr3:results f a'.tmps=(do let vs <-f.results.mapM (dF a'.tmps);pure (if h:vs.size=1 then vs[0] else .tuple vs)):=by
    unfold results
    congr 2
   have hm3:(f.results.mapM (dF a'.tmps)).run P w'= .ok vs.toArray w':=by
    rw [Array.mapM_eq_mapM_toList,map_eq_pure_bind]
    simp only [Sem.run_bind,g1,Result.andThen_ok,Sem.run_pure]
   refine ⟨hst.defers,if h:vs.toArray.size=1 then vs.toArray[0] else .tuple vs.toArray,by rw [hr3,Sem.run_bind,hm3];rfl,_,rfl,ok',mu',hst.later,hcf.inv,?_,hcf.fresh⟩
   match rs,vs,g3.trans g2.symm,g4 with
   | [q],[v],_,g4=>exact g4 0 q v rfl rfl
   | [],[],_,_=>exact .tup _ _ rfl fun i p v h1 h2=>by simp at h1
   | q::q2::rs,v::v2::vs,hl,g4=>
     rw [dif_neg (by simp)]
     exact .tup _ _ (by simpa using hl) fun i p v h1 h2=>g4 i p v h1 (by simpa using h2)
  cases e with
  | normal=>exact done hk
  | exit j=>cases hk
  | goto l=>cases hk
  | ret=>exact done hk
 ·cases hr'
end
end Go.AM
namespace Go.AM
open Go.RowKit
def VN (ops:Array Oper):Option (Oper×Oper×Nat):=
 match ops.toList with
 | [o1,o2]=>
   match o2.op,o2.guard,o2.dst with
   | .defer c,none,none=>match c.callee,c.args.toList with | .value (.tmp t),[]=>some (o1,o2,t) | _,_=>none
   | _,_,_=>none
 | _=>none
def MX:Code->Option (Array Oper×Code)
 | .seq (.region _ ops false) z=>match VN ops with | some _=>some (ops,z) | none=>none
 | _=>none
theorem RC {y z:Code} {ops:Array Oper} (h:MX y=some (ops,z)): ∃id q,y= .seq (.region id ops false) z/\VN ops=some q:=by
 unfold MX at h
 split at h
 ·split at h
  ·rename_i q hq;cases h;exact ⟨_,q,rfl,hq⟩
  ·cases h
 ·cases h
theorem Vy {ops:Array Oper} {o1 o2:Oper} {t:Nat} (h:VN ops=some (o1,o2,t)):ops.toList=[o1,o2]/\o2.guard=none/\o2.dst=none/\ ∃c,o2.op= .defer c/\c.callee= .value (.tmp t)/\c.args.toList=[]:=by
 unfold VN at h
 split at h
 ·rename_i p1 p2 hl
  split at h
  ·rename_i c h1 h2 h3
   split at h
   ·rename_i t' h4 h5
    cases h
    exact ⟨hl,h2,h3,c,h1,h4,h5⟩
   ·cases h
  ·cases h
 ·cases h
def ZN (gd:FuncId->Bool) (t:Nat) (st:St):Bool:=match st.fr.getD t .undef with | .clo (.func g) _=>gd g | _=>false
section
variable (P:Program) (Γ:FuncId->Option FSig) (C:IV->List Nat->List (List IV)->Option (List IV)) (A:Ann) (gd:FuncId->Bool)
def Dw (ops:Array Oper) (z:Code) (R:Type) (st:St) (K:Bool->Ex->St->Option R):Option R:=
 match VN ops with
 | some q=>jh P Γ C ops [q.1] st fun st2=>if ZN gd q.2.2 st2=true then exec P Γ C A z R st2 (K true) else none
 | none=>none
def Ai:Code->(R:Type)->St->(Bool->Ex->St->Option R)->Option R
 | .seq x y,R,st,K=>
   exec P Γ C A x R st fun e st'=>
    match e with
    | .normal=>(match MX y with | some p=>Dw P Γ C A gd p.1 p.2 R st' K | none=>Ai y R st' K)
    | e=>K false e st'
 | c,R,st,K=>exec P Γ C A c R st (K false)
def qI (f:Func) (R:Type) (ps:List PV) (h:List Ob) (k:PV->List Ob->Option R):Option R:=
 match f.body with
 | some c=>Ai P Γ C A gd c R ⟨ps++List.replicate (f.ntmps - ps.length) .skip,h⟩ fun _ e st=>
    match e with
    | .exit _=>none
    | .goto _=>none
    | _=>(K2 P st f.results.toList).bind fun ps=>k (VX ps) st.h
 | none=>none
end
section
variable {P:Program} {Γ:FuncId->Option FSig} {C:IV->List Nat->List (List IV)->Option (List IV)} {A:Ann} {gd:FuncId->Bool} {R S:Type}
theorem Vc {ops:Array Oper} {z:Code} {st:St} {K:Bool->Ex->St->Option R} (f:R->Option S):(Dw P Γ C A gd ops z R st K).bind f=Dw P Γ C A gd ops z S st fun d e st=>(K d e st).bind f:=by
 unfold Dw
 split
 ·rw [xi]
  congr 1;funext st2
  split
  ·exact lN _ _ _ _ _ _
  ·rfl
 ·rfl
theorem Un: ∀(c:Code) (st:St) (K:Bool->Ex->St->Option R) (f:R->Option S),(Ai P Γ C A gd c R st K).bind f=Ai P Γ C A gd c S st fun d e st=>(K d e st).bind f:=by
 intro c
 induction c with
 | seq x y _ ihy=>
   intro st K f
   simp only [Ai]
   rw [lN]
   congr 1;funext e st'
   cases e with
   | normal=>
     simp only
     split
     ·exact Vc f
     ·exact ihy st' K f
   | _=>rfl
 | _=>intro st K f;exact lN _ _ _ _ _ _
theorem Sm {ops:Array Oper} {z:Code} {st:St} {K:Bool->Ex->St->Option R} {r:R} (h:Dw P Γ C A gd ops z R st K=some r): ∃d e st',Stay st.h st'.h/\K d e st'=some r:=by
 unfold Dw at h
 split at h
 ·obtain ⟨st2,h1,h2⟩:=oX _ _ h
  split at h2
  ·obtain ⟨e,st3,h3,h4⟩:=ji _ _ _ _ _ h2
   exact ⟨_,e,st3,h1.trans h3,h4⟩
  ·cases h2
 ·cases h
theorem Tv: ∀(c:Code) (st:St) (K:Bool->Ex->St->Option R) (r:R),Ai P Γ C A gd c R st K=some r-> ∃d e st',Stay st.h st'.h/\K d e st'=some r:=by
 intro c
 induction c with
 | seq x y _ ihy=>
   intro st K r h
   simp only [Ai] at h
   obtain ⟨e,st1,h1,h2⟩:=ji _ _ _ _ _ h
   cases e with
   | normal=>
     simp only at h2
     split at h2
     ·obtain ⟨d,e2,st2,h3,h4⟩:=Sm h2
      exact ⟨d,e2,st2,h1.trans h3,h4⟩
     ·obtain ⟨d,e2,st2,h3,h4⟩:=ihy st1 K r h2
      exact ⟨d,e2,st2,h1.trans h3,h4⟩
   | _=>exact ⟨_,_,_,h1,h2⟩
 | _=>
   intro st K r h
   obtain ⟨e,st1,h1,h2⟩:=ji _ _ _ _ _ h
   exact ⟨_,e,st1,h1,h2⟩
theorem QU (P:Program) (Γ:FuncId->Option FSig) (C:IV->List Nat->List (List IV)->Option (List IV)) (A:Ann) (gd:FuncId->Bool) (f:Func) (R S:Type) (ps:List PV) (h:List Ob) (k:PV->List Ob->Option R) (g:R->Option S):
  (qI P Γ C A gd f R ps h k).bind g=qI P Γ C A gd f S ps h fun p h=>(k p h).bind g:=by
 unfold qI
 split
 ·rw [Un]
  congr 1;funext d e st
  cases e with
  | exit j=>rfl
  | goto l=>rfl
  | normal=>simp only;rw [Option.bind_assoc]
  | ret=>simp only;rw [Option.bind_assoc]
 ·rfl
theorem Np (P:Program) (Γ:FuncId->Option FSig) (C:IV->List Nat->List (List IV)->Option (List IV)) (A:Ann) (gd:FuncId->Bool) (f:Func) (ps:List PV) (h:List Ob) (p:PV) (h':List Ob)
  (hr:qI P Γ C A gd f (PV×List Ob) ps h (fun p h=>some (p,h))=some (p,h')):Stay h h':=by
 unfold qI at hr
 split at hr
 ·obtain ⟨d,e,st,h1,h2⟩:=Tv _ _ _ _ hr
  cases e with
  | exit j=>cases h2
  | goto l=>cases h2
  | normal=>obtain ⟨ps',_,h3⟩:=Option.bind_eq_some_iff.1 h2;cases h3;exact h1
  | ret=>obtain ⟨ps',_,h3⟩:=Option.bind_eq_some_iff.1 h2;cases h3;exact h1
 ·cases hr
def PZ (P:Program) (Γ:FuncId->Option FSig) (C:IV->List Nat->List (List IV)->Option (List IV)) (A:Ann) (gd:FuncId->Bool) (f:Func):Inl:=⟨qI P Γ C A gd f,QU P Γ C A gd f,Np P Γ C A gd f⟩
end
section
variable {P:Program} {Γ:FuncId->Option FSig} {C:IV->List Nat->List (List IV)->Option (List IV)} {A:Ann} {gd:FuncId->Bool} {w0:World} {ok0:O0}
def X2 (Γ:FuncId->Option FSig) (A:Ann):Code->Bool
 | .seq x y=>cP Γ A x&&(match MX y with | some p=>cP Γ A p.2 | none=>X2 Γ A y)
 | c=>cP Γ A c
theorem Qa (hΓ:ak P Γ) (hC:COK P C) (hm:P.follows .mixedOrders=true) {ops:Array Oper} {z:Code} {id:Nat} (hok:cP Γ A z=true) {R:Type} {st:St} {K:Bool->Ex->St->Option R} {r:R} (hs:Dw P Γ C A gd ops z R st K=some r)
  {a:Act} {w:World} {ok:Nat->Prop} {mu:Mu} (hc:Cfg w0 ok0 w ok mu st a) {Q:Exit->Act->World->Prop}
  (hQ: ∀(e:Ex) (st':St) (a':Act) (w':World) (ok':Nat->Prop) (mu':Mu),K true e st'=some r->Cfg w0 ok0 w' ok' mu' st' a'->Later w ok mu w' ok' mu'->
    (∃g caps,gd g=true/\a'.defers={ target:= .fn (.func g) caps,args:= #[] }::a.defers)->Q (tJ e) a' w'):(Code.seq (.region id ops false) z).wp P Q a w:=by
 unfold Dw at hs
 split at hs
 ·rename_i q hq
  obtain ⟨o1,o2,t⟩:=q
  obtain ⟨hl,hg2,hd2,c,h1,h2,h3⟩:=Vy hq
  refine wp_seq (wp_region_list ?_)
  rw [hl]
  simp only [jh] at hs
  obtain ⟨b,hg,hcase⟩:=cp hs
  have hw:=Cj (w:=w) (ok:=ok) (mu:=mu) (a:=a) hg (fun s v _ hv=>hc.fr.at hv) hc.fr.size
  have tail: ∀(st2:St) (a2:Act) (w2:World) (ok2:Nat->Prop) (mu2:Mu),(if ZN gd t st2=true then exec P Γ C A z R st2 (K true) else none)=some r->Cfg w0 ok0 w2 ok2 mu2 st2 a2->Later w ok mu w2 ok2 mu2->a2.defers=a.defers->
    wpList P ops (Exit.then (z.wp P Q) Q) [o2] a2 w2:=by
   intro st2 a2 w2 ok2 mu2 hs2 c2 l2 hd
   split at hs2
   ·rename_i hgd
    unfold ZN at hgd
    split at hgd
    ·rename_i g caps hv
     have hr:=c2.fr.ev (.tmp t)
     simp only [ev,hv] at hr
     obtain ⟨cv,hev⟩: ∃cv,a2.eval (.tmp t)= .func (.func g) #[] cv:=by
      generalize a2.eval (.tmp t)=v at hr
      cases hr with | clo _ _ cv _ _=>exact ⟨cv,rfl⟩
     unfold wpList
     rw [show Region.wanted o2 (yielded ops a2.tmps)=true by unfold Region.wanted;rw [hg2]]
     simp only [if_true]
     left
     unfold Oper.wp
     have hex:(execOp a2.eval o2).run P w2= .ok (.defer { target:= .fn (.func g) cv,args:= #[] }) w2:=by
      have ha:c.args= #[]:=by apply Array.toList_inj.1;simpa using h3
      simp [execOp,h1,resolve,h2,hev,Deferred.ofValue,ha,Result.andThen]
     rw [hex,Oper.upon_defer]
     unfold wpList
     have e0:({ a2 with defers:={ target:= .fn (.func g) cv,args:= #[] }::a2.defers }:Act).put o2.dst undef={ a2 with defers:={ target:= .fn (.func g) cv,args:= #[] }::a2.defers }:=by rw [hd2];rfl
     rw [e0]
     show z.wp P Q ({ a2 with defers:={ target:= .fn (.func g) cv,args:= #[] }::a2.defers }:Act) w2
     refine gl hΓ hC hm z hok R st2 (K true) r hs2 ({ a2 with defers:={ target:= .fn (.func g) cv,args:= #[] }::a2.defers }:Act) w2 ok2 mu2 ⟨c2.inv,c2.fresh,c2.fr⟩ Q fun e st' a' w' ok' mu' hk hc' hst=> ?_
     exact hQ e st' a' w' ok' mu' hk hc' (l2.trans hst.later) ⟨g,cv,hgd,by rw [hst.defers,<-hd]⟩
    ·cases hgd
   ·cases hs2
  unfold wpList
  rw [hw]
  rcases hcase with ⟨rfl,p,h',hst,hrest⟩ | ⟨rfl,hrest⟩
  ·simp only [if_true]
   left
   refine SQ hΓ hC hst hc.fr hc.inv hc.fresh _ _ fun v w' hr=> ?_
   obtain ⟨ok',mu',hl,hi,hp,hfr⟩:=hr
   exact tail _ _ w' ok' mu' hrest ⟨hi,hfr,(hc.fr.later hl).put o1.dst hp⟩ hl nt
  ·simp only [Bool.false_eq_true,if_false]
   exact tail _ _ w ok mu hrest ⟨hc.inv,hc.fresh,hc.fr.put o1.dst .skip⟩ (.refl _ _ _) nt
 ·cases hs
theorem Qe (hΓ:ak P Γ) (hC:COK P C) (hm:P.follows .mixedOrders=true): ∀(c:Code),X2 Γ A c=true-> ∀(R:Type) (st:St) (K:Bool->Ex->St->Option R) (r:R),Ai P Γ C A gd c R st K=some r->
  ∀(a:Act) (w:World) (ok:Nat->Prop) (mu:Mu),Cfg w0 ok0 w ok mu st a-> ∀(Q:Exit->Act->World->Prop),
  (∀(d:Bool) (e:Ex) (st':St) (a':Act) (w':World) (ok':Nat->Prop) (mu':Mu),K d e st'=some r->Cfg w0 ok0 w' ok' mu' st' a'->Later w ok mu w' ok' mu'->
    (a'.defers=a.defers\/ ∃g caps,gd g=true/\a'.defers={ target:= .fn (.func g) caps,args:= #[] }::a.defers)->Q (tJ e) a' w')->c.wp P Q a w:=by
 intro c
 have plain: ∀(c:Code),cP Γ A c=true-> ∀(R:Type) (st:St) (K:Bool->Ex->St->Option R) (r:R),exec P Γ C A c R st (K false)=some r->
   ∀(a:Act) (w:World) (ok:Nat->Prop) (mu:Mu),Cfg w0 ok0 w ok mu st a-> ∀(Q:Exit->Act->World->Prop),
   (∀(d:Bool) (e:Ex) (st':St) (a':Act) (w':World) (ok':Nat->Prop) (mu':Mu),K d e st'=some r->Cfg w0 ok0 w' ok' mu' st' a'->Later w ok mu w' ok' mu'->
     (a'.defers=a.defers\/ ∃g caps,gd g=true/\a'.defers={ target:= .fn (.func g) caps,args:= #[] }::a.defers)->Q (tJ e) a' w')->c.wp P Q a w:=by
  intro c hok R st K r hs a w ok mu hc Q hQ
  exact gl hΓ hC hm c hok R st (K false) r hs a w ok mu hc Q fun e st' a' w' ok' mu' hk hc' hst=>hQ false e st' a' w' ok' mu' hk hc' hst.later (.inl hst.defers)
 induction c with
 | seq x y _ ihy=>
   intro hok R st K r hs a w ok mu hc Q hQ
   simp only [X2,Bool.and_eq_true] at hok
   simp only [Ai] at hs
   refine wp_seq (gl hΓ hC hm x hok.1 R st _ r hs a w ok mu hc _ fun e st' a' w' ok' mu' hk hc' hst=> ?_)
   cases e with
   | normal=>
     simp only at hk
     split at hk
     ·rename_i p hp
      obtain ⟨ops,z⟩:=p
      have h2:=hok.2
      rw [hp] at h2
      obtain ⟨id,q,rfl,hq⟩:=RC hp
      refine Qa hΓ hC hm h2 hk hc' fun e2 st2 a2 w2 ok2 mu2 hk2 hc2 hl2 hd2=>hQ true e2 st2 a2 w2 ok2 mu2 hk2 hc2 (hst.later.trans hl2) (.inr ?_)
      obtain ⟨g,caps,g1,g2⟩:=hd2
      exact ⟨g,caps,g1,by rw [g2,hst.defers]⟩
     ·rename_i hn
      have h2:=hok.2
      rw [hn] at h2
      refine ihy h2 R st' K r hk a' w' ok' mu' hc' Q fun d e2 st2 a2 w2 ok2 mu2 hk2 hc2 hl2 hd2=>hQ d e2 st2 a2 w2 ok2 mu2 hk2 hc2 (hst.later.trans hl2) ?_
      rw [hst.defers] at hd2
      exact hd2
   | exit j=>exact hQ false (.exit j) st' a' w' ok' mu' hk hc' hst.later (.inl hst.defers)
   | ret=>exact hQ false .ret st' a' w' ok' mu' hk hc' hst.later (.inl hst.defers)
   | goto l=>exact hQ false (.goto l) st' a' w' ok' mu' hk hc' hst.later (.inl hst.defers)
 | _=>intro hok R st K r hs a w ok mu hc Q hQ;exact plain _ hok R st K r hs a w ok mu hc Q hQ
def BQ (P:Program) (g:FuncId):Prop:=Enters P g/\ ∀(args:Array Value) (w:World),CallsD P g args .returning w fun e u' w'=>(∃v,e= .returned v)/\u'= .returning/\w'=w
theorem tg (hΓ:ak P Γ) (hC:COK P C) (hm:P.follows .mixedOrders=true) (hgd: ∀g,gd g=true->BQ P g) {g:FuncId} {f:Func} (hg:P.funcs[g]? =some f) (hb:(match f.body with | some c=>X2 Γ A c | none=>false)=true) {sc:Bool} {ns:List Nat} {esz:Nat} {fn:List (List IV)->Option (List IV)}:
  ah P g ⟨.inl (PZ P Γ C A gd f),sc,ns,esz,fn⟩:=by
 intro w0 ok0 w ok mu h ps args p h' i hfresh hlen hrel hr
 have hr':qI P Γ C A gd f (PV×List Ob) ps h (fun p h=>some (p,h))=some (p,h'):=hr
 unfold qI at hr'
 split at hr'
 ·rename_i c hc
  rw [hc] at hb
  have hfr:Fr w ok mu (ps++List.replicate (f.ntmps - ps.length) .skip) (args.toArray++Array.replicate (f.ntmps - args.toArray.size) undef):=by
   refine ⟨by simp [hlen],fun t p v h1 h2=> ?_⟩
   simp only [Array.getElem?_append,List.size_toArray] at h2
   by_cases hlt:t < args.length
   ·rw [List.getElem?_append_left (by omega)] at h1
    rw [if_pos hlt] at h2
    exact hrel t p v h1 (by simpa using h2)
   ·rw [List.getElem?_append_right (by omega),List.getElem?_replicate] at h1
    rw [if_neg hlt,Array.getElem?_replicate] at h2
    split at h1
    ·split at h2
     ·cases h1;cases h2;exact .skip
     ·cases h2
    ·cases h1
  refine calls_of_wp_defers hg hc (Qe (w0:=w0) (ok0:=ok0) hΓ hC hm c hb _ _ _ (p,h') hr' _ w ok mu ⟨i,hfresh,hfr⟩ _ fun d e st' a' w' ok' mu' hk hcf hlat hdef=> ?_)
  have done:(K2 P st' f.results.toList).bind (fun ps=>some (VX ps,st'.h))=some (p,h')->Leaves P f a'.tmps (fun e w'=> ∃v,e= .returned v/\ ∃ok' mu',Later w ok mu w' ok' mu'/\Inv w0 ok0 w' ok' mu' h'/\RP w' ok' mu' p v/\ ∀q,h'.length<=q->mu' q=none) a'.defers .returning w':=by
   intro h
   obtain ⟨rs,h1,h2⟩:=Option.bind_eq_some_iff.1 h
   cases h2
   obtain ⟨vs,g1,g2,g3,g4⟩:=Bt (P:=P) hcf _ _ h1
   have hr3:results f a'.tmps=(do let vs <-f.results.mapM (dF a'.tmps);pure (if h:vs.size=1 then vs[0] else .tuple vs)):=by
    unfold results
    congr 2
   have hm3:(f.results.mapM (dF a'.tmps)).run P w'= .ok vs.toArray w':=by
    rw [Array.mapM_eq_mapM_toList,map_eq_pure_bind]
    simp only [Sem.run_bind,g1,Result.andThen_ok,Sem.run_pure]
   have nil:Leaves P f a'.tmps (fun e w'=> ∃v,e= .returned v/\ ∃ok' mu',Later w ok mu w' ok' mu'/\Inv w0 ok0 w' ok' mu' st'.h/\RP w' ok' mu' (VX rs) v/\ ∀q,st'.h.length<=q->mu' q=none) [] .returning w':=by
    refine ⟨if h:vs.toArray.size=1 then vs.toArray[0] else .tuple vs.toArray,by rw [hr3,Sem.run_bind,hm3];rfl,_,rfl,ok',mu',hlat,hcf.inv,?_,hcf.fresh⟩
    match rs,vs,g3.trans g2.symm,g4 with
    | [q],[v],_,g4=>exact g4 0 q v rfl rfl
    | [],[],_,_=>exact .tup _ _ rfl fun i p v h1 h2=>by simp at h1
    | q::q2::rs,v::v2::vs,hl,g4=>
      rw [dif_neg (by simp)]
      exact .tup _ _ (by simpa using hl) fun i p v h1 h2=>g4 i p v h1 (by simpa using h2)
   rcases hdef with hd | ⟨g',caps,g5,hd⟩
   ·rw [hd];exact nil
   ·rw [hd]
    obtain ⟨hE,hG⟩:=hgd g' g5
    refine leaves_cons (f:=g') (args:= #[]++caps) (by simp) ?_ ((hG (#[]++caps) w').mono fun e u' w2 he=> ?_)
    ·have:=hE (#[]++caps) w'
     simpa [invoke] using this
    ·obtain ⟨⟨v,rfl⟩,rfl,rfl⟩:=he
     exact nil
  cases e with
  | normal=>exact done hk
  | exit j=>cases hk
  | goto l=>cases hk
  | ret=>exact done hk
 ·cases hr'
end
theorem Al {P:Program} {g:FuncId} {n:Nat} {ns:List Nat} {fn:List (List IV)->Option (List IV)} (h:ah P g ⟨.pure,true,ns,0,fn⟩):
  ah P g ⟨.look n,false,ns,0,fun l=>match l with | vs::as=>fn ([.ptr vs 0]::as) | []=>none⟩:=by
 intro w ok as vs b base c T args r hok hlen hb hroom hcells hargs hr
 have hfn:fn ([.ptr vs 0]::as)=some r:=hr
 have hbl:b < w.heap.size:=(Array.getElem?_eq_some_iff.1 hb).1
 have hrv:RV w (fun x=>ok x\/x=b) (.ptr vs 0) (.pointer (some ⟨b,base,none⟩)):=by
  have:=RV.ptr (w:=w) (ok:=fun x=>ok x\/x=b) vs 0 b base (fun i=>(c[base+i]?).getD undef) (.inr rfl) (fun i hi=>by
   rw [eu hb,Array.getElem?_eq_getElem (by omega)];rfl) (fun i x hx=>by
   obtain ⟨u,h1,h2⟩:=hcells i x hx
   show RV w _ x ((c[base+i]?).getD undef)
   rw [h1]
   exact h2.more fun _ h=> .inl h)
  simpa using this
 have hA:bh w (fun x=>ok x\/x=b) ([.ptr vs 0]::as) (.pointer (some ⟨b,base,none⟩)::args):=by
  refine ⟨by simp [hargs.1],fun i cs v h1 h2=> ?_⟩
  cases i with
  | zero=>simp at h1 h2;subst h1;subst h2;exact .inl ⟨_,rfl,hrv⟩
  | succ i=>
    rcases hargs.2 i cs v (by simpa using h1) (by simpa using h2) with ⟨x,h3,h4⟩ | ⟨h3,us,h4,h5,h6⟩
    ·exact .inl ⟨x,h3,h4.more fun _ h=> .inl h⟩
    ·exact .inr ⟨h3,us,h4,h5,fun i x u h7 h8=>(h6 i x u h7 h8).more fun _ h=> .inl h⟩
 have hs:=h.2 rfl _ r hfn
 have hp:=h.1 w (fun x=>ok x\/x=b) w (fun x=>ok x\/x=b) ([.ptr vs 0]::as) (.pointer (some ⟨b,base,none⟩)::args) r (.refl _ _) (fun x hx=>by
  rcases hx with hx | rfl
  ·exact hok x hx
  ·exact hbl) hA hfn
 simp only [List.append_nil] at hp
 refine hp.mono fun e w' he=> ?_
 obtain ⟨v,rfl,h1,h2⟩:=he
 refine ⟨v,rfl,h1,h2.scalar fun i=> ?_⟩
 unfold nth
 rw [List.getD_eq_getElem?_getD]
 cases hx:r[i]? with
 | none=>rfl
 | some x=>exact hs x (List.mem_of_getElem? hx)
end Go.AM
namespace Go.AM
def al (n:FuncId) (s:FSig) (t:FuncId->Option FSig):FuncId->Option FSig:=fun f=>if f=n then some s else t f
def T0:FuncId->Option FSig:=fun _=>none
theorem G0 {P:Program}:ak P T0:=ak.nil
theorem ak.ext {P:Program} {n:FuncId} {s:FSig} {t:FuncId->Option FSig} (he:Enters P n) (hs:ah P n s) (ht:ak P t):ak P (al n s t):=ak.ite ⟨he,hs⟩ ht
theorem ak.own {P:Program} {n:FuncId} {s:FSig} {t:FuncId->Option FSig} (h:ak P (al n s t)):ah P n s:=(h n s (if_pos rfl)).2
theorem xq {e:Option (List IV)} {r:List IV} (h:Be .nilp e=some r):e=some r:=h
def A0:Ann:={}
def A1:Ann:={ scalar:=true }
theorem ae {P:Program} {T:FuncId->Option FSig} {Γ:FuncId->Option FSig} {C:IV->List Nat->List (List IV)->Option (List IV)} {A:Ann} {g:FuncId} {f:Func} {ns:List Nat} {sc:Bool} {fn:List (List IV)->Option (List IV)} (hT:ak P T) (hΓ:ak P Γ) (hC:COK P C) (hm:P.follows .mixedOrders=true)
  (h:(P.funcs[g]?,f.name== "runtime.NumGoroutine",f.body.isNone,(match f.body with | some c=>rq Γ A c | none=>false),f.resultTypes.toList.map P.cellsOf,A.scalar)=(some f,false,false,true,ns,sc))
  (hfn: ∀as r,fn as=some r->run P Γ C A f as=some r):ak P (al g ⟨.pure,sc,ns,0,fn⟩ T):=by
 simp only [Prod.mk.injEq] at h
 obtain ⟨h1,h2,h3,h4,h5,h6⟩:=h
 exact ak.ext (enters_of h1 h2 h3) (iQ hΓ hC hm h1 h4 h5 h6 hfn) hT
end Go.AM
namespace Go.AM
open Go.RowKit Go.ChangeShapes Go.WideShapes Go.Deep
inductive Sh where
 | bool
 | int (k:IntKind)
 | flt (k:FloatKind)
 | str
 | slc (l:List Sh)
 deriving Inhabited
inductive ShOK:Sh->IV->Prop
 | bool (b:Bool):ShOK .bool (.bool b)
 | int (k:IntKind) (n:Int) (h:(Lit.int k n).wf=true):ShOK (.int k) (.int k n)
 | flt (k:FloatKind) (n:Nat) (h:(Lit.float k n).wf=true):ShOK (.flt k) (.flt k n)
 | str (s:ByteArray) (h:s.size<=maxLen):ShOK .str (.str s)
 | slc (l:List Sh) (es:List (List IV)) (h:es.length<=maxLen) (h1: ∀e∈es,e.length=l.length) (h2: ∀(i j:Nat) (e:List IV) (c:IV) (s:Sh),es[i]? =some e->e[j]? =some c->l[j]? =some s->ShOK s c):ShOK (.slc l) (.lst es)
def Typed (l:List Sh) (cs:List IV):Prop:=cs.length=l.length/\ ∀(j:Nat) (s:Sh) (c:IV),l[j]? =some s->cs[j]? =some c->ShOK s c
def xe (sh:TypeId->Option (List Sh)) (size:TypeId->Nat):List Field->Nat->Option (List Sh×Nat)
 | [],off=>some ([],off)
 | f::fs,off=>if f.offset=off then (sh f.type).bind fun l=>if l.length=size f.type then (xe sh size fs (off+l.length)).map fun p=>(l++p.1,p.2) else none else none
def s7 (P:Program):Nat->TypeId->Option (List Sh)
 | 0,_=>none
 | n+1,t=>
   match P.underlying t with
   | some .bool=>some [.bool]
   | some (.int k)=>some [.int k]
   | some (.float k)=>some [.flt k]
   | some .string=>some [.str]
   | some (.slice e)=>(s7 P n e).bind fun l=>if l.length=P.cellsOf e then some [.slc l] else none
   | some (.struct fs)=>(xe (s7 P n) P.cellsOf fs.toList 0).bind fun p=>if p.2=P.cellsOf t then some p.1 else none
   | some (.array m e)=>(s7 P n e).bind fun l=>if l.length=P.cellsOf e/\P.cellsOf t=m*P.cellsOf e then some ((List.replicate m l).flatten) else none
   | _=>none
def gJ (w:World) (ok:Nat->Prop) (ivs:List IV) (cs:List Value):Prop:=ivs.length=cs.length/\ ∀(j:Nat) (c:IV) (v:Value),ivs[j]? =some c->cs[j]? =some v->RV w ok c v
theorem gJ.one {w:World} {ok:Nat->Prop} {c:IV} {v:Value} (h:RV w ok c v):gJ w ok [c] [v]:=⟨rfl,fun j x u h1 h2=>by
 cases j with
 | zero=>cases h1;cases h2;exact h
 | succ j=>simp at h1⟩
theorem Typed.one {s:Sh} {c:IV} (h:ShOK s c):Typed [s] [c]:=⟨rfl,fun j x u h1 h2=>by
 cases j with
 | zero=>cases h1;cases h2;exact h
 | succ j=>simp at h1⟩
theorem gJ.append {w:World} {ok:Nat->Prop} {a b:List IV} {x y:List Value} (h:gJ w ok a x) (k:gJ w ok b y):gJ w ok (a++b) (x++y):=by
 refine ⟨by simp [h.1,k.1],fun j c v h1 h2=> ?_⟩
 by_cases hj:j < a.length
 ·rw [List.getElem?_append_left hj] at h1
  rw [List.getElem?_append_left (by rw [<-h.1];exact hj)] at h2
  exact h.2 j c v h1 h2
 ·rw [List.getElem?_append_right (by omega)] at h1
  rw [List.getElem?_append_right (by rw [<-h.1];omega),<-h.1] at h2
  exact k.2 _ c v h1 h2
theorem Typed.append {a b:List Sh} {x y:List IV} (h:Typed a x) (k:Typed b y):Typed (a++b) (x++y):=by
 refine ⟨by simp [h.1,k.1],fun j c v h1 h2=> ?_⟩
 by_cases hj:j < a.length
 ·rw [List.getElem?_append_left hj] at h1
  rw [List.getElem?_append_left (by rw [h.1];exact hj)] at h2
  exact h.2 j c v h1 h2
 ·rw [List.getElem?_append_right (by omega)] at h1
  rw [List.getElem?_append_right (by rw [h.1];omega),h.1] at h2
  exact k.2 _ c v h1 h2
section
variable {H:Type} {enc:TypeId×Value->H} {P:Program} {w:World} {base:Nat} {spare:Nat->Bool} {held:Bool}
theorem oJ: ∀(m:Nat) (t:TypeId) (l:List Sh),s7 P m t=some l-> ∀(fuel:Nat) (cs:List Value) (x:DataW H×List MemPlace),DataW.trod enc P w base spare held fuel t cs=some x->
  ∃ivs,Typed l ivs/\gJ w (fun b=>b < w.heap.size) ivs cs
 | 0,t,l,hl=>by simp [s7] at hl
 | m+1,t,l,hl=>by
   intro fuel cs x h
   unfold s7 at hl
   have step: ∀{n:Nat},fuel=n+1->DataW.trodStep enc P w base spare held (DataW.trod enc P w base spare held n) t cs=some x:=fun e=>by subst e;exact h
   obtain ⟨n,rfl⟩: ∃n,fuel=n+1:=by
    cases fuel with
    | zero=>simp [DataW.trod] at h
    | succ n=>exact ⟨n,rfl⟩
   have hs:=step rfl
   split at hl
   ·rename_i hu
    cases hl
    unfold DataW.trodStep at hs
    rw [hu] at hs
    split at hs<;>simp_all
    rename_i b
    exact ⟨[.bool b],.one (.bool b),.one (.bool b)⟩
   ·rename_i k hu
    cases hl
    unfold DataW.trodStep at hs
    rw [hu] at hs
    split at hs<;>simp_all
    rename_i k' n' _
    obtain ⟨⟨rfl,hw⟩,_⟩:=hs
    exact ⟨[.int _ n'],.one (.int _ n' hw),.one (.int _ n')⟩
   ·rename_i k hu
    cases hl
    unfold DataW.trodStep at hs
    rw [hu] at hs
    split at hs<;>simp_all
    rename_i k' n' _
    obtain ⟨⟨rfl,hw⟩,_⟩:=hs
    exact ⟨[.flt _ n'],.one (.flt _ n' hw),.one (.flt _ n')⟩
   ·rename_i hu
    cases hl
    unfold DataW.trodStep at hs
    rw [hu] at hs
    split at hs<;>simp_all
    rename_i s
    exact ⟨[.str s],.one (.str s hs.1),.one (.str s)⟩
   ·rename_i e hu
    obtain ⟨le,he,hl⟩:=Option.bind_eq_some_iff.1 hl
    split at hl
    ·rename_i hsz
     cases hl
     rcases open_slice hu h with ⟨rfl,_⟩ | ⟨a,len,cap,m',n',D,Pl,rfl,hb,hlc,hcm,hm,hx,hi⟩
     ·exact ⟨[.lst []],.one (.slc le [] (Nat.zero_le _) (fun e he=>by simp at he) fun i j e c s h=>by simp at h),
       .one (.lst [] none 0 le.length (fun _ _=> .nilFunc) (Nat.le_refl _) (fun e he=>by simp at he) (fun i j hi=>by simp at hi) fun i j e c h=>by simp at h)⟩
     ·have hlen:len<=m':=by rw [hm];split<;>omega
      have key: ∀i,i < len-> ∃(ivs:List IV) (cs':List Value),w.cells? base (a.add (i*P.cellsOf e)) (P.cellsOf e)=some cs'/\Typed le ivs/\gJ w (fun b=>b < w.heap.size) ivs cs':=fun i hil=>by
       obtain ⟨cs',hc,ht⟩:=hi i (by omega)
       obtain ⟨ivs,h1,h2⟩:=oJ m e le he _ _ _ ht
       exact ⟨ivs,cs',hc,h1,h2⟩
      have key2: ∃(F:Nat->List IV) (G:Nat->List Value),∀i,i < len->w.cells? base (a.add (i*P.cellsOf e)) (P.cellsOf e)=some (G i)/\Typed le (F i)/\gJ w (fun b=>b < w.heap.size) (F i) (G i):=by
       refine ⟨fun i=>if h:i < len then (key i h).choose else [],fun i=>if h:i < len then (key i h).choose_spec.choose else [],fun i hil=> ?_⟩
       simp only [hil,dif_pos]
       exact (key i hil).choose_spec.choose_spec
      obtain ⟨F,G,hFG⟩:=key2
      have hcell: ∀i j,i < len->j < le.length->w.cell? (a.add (i*le.length+j))=some ((G i).getD j .nilIface)/\a.block < w.heap.size:=fun i j hil hj=>by
       obtain ⟨h1,h2,h3⟩:=hFG i hil
       obtain ⟨_,h4,h5⟩:=World.cells?_some h1
       have h6:=h5 j (by omega)
       rw [add_add,<-hsz] at h6
       have h7:(G i)[j]? =some ((G i).getD j .nilIface):=by
        rw [List.getD_eq_getElem?_getD,List.getElem?_eq_getElem (by rw [h4];omega)];rfl
       rw [h7] at h6
       refine ⟨h6,?_⟩
       unfold World.cell? at h6
       rw [js] at h6
       cases hx:w.heap[a.block]? with
       | none=>rw [hx] at h6;cases h6
       | some _=>exact (Array.getElem?_eq_some_iff.1 hx).1
      have hget: ∀(i:Nat) (e':List IV),((List.range len).map F)[i]? =some e'->i < len/\e'=F i:=fun i e' hi'=>by
       rw [List.getElem?_map] at hi'
       have hil:i < len:=by
        rcases Nat.lt_or_ge i len with h | h
        ·exact h
        ·rw [List.getElem?_eq_none (by simpa using h)] at hi';cases hi'
       rw [List.getElem?_range hil] at hi'
       cases hi'
       exact ⟨hil,rfl⟩
      have hall: ∀e'∈(List.range len).map F,e'.length=le.length:=fun e' he'=>by
       obtain ⟨i,hi',rfl⟩:=List.mem_map.1 he'
       exact (hFG i (List.mem_range.1 hi')).2.1.1
      refine ⟨[.lst ((List.range len).map F)],.one (.slc le _ (by simp;omega) hall fun i j e' c s h1 h2 h3=> ?_),.one ?_⟩
      ·obtain ⟨hil,rfl⟩:=hget i e' h1
       exact (hFG i hil).2.1.2 j s c h3 h2
      ·have hll:((List.range len).map F).length=len:=by simp
       have hrv:RV w (fun b=>b < w.heap.size) (.lst ((List.range len).map F)) (.slice (some a) ((List.range len).map F).length cap):=by
        refine .lst _ (some a) cap le.length (fun i j=>(G i).getD j .nilIface) (by rw [hll];exact hlc) hall (fun i j hi' hj=> ?_) fun i j e' c h1 h2=> ?_
        ·rw [hll] at hi'
         obtain ⟨h1,h2⟩:=hcell i j hi' hj
         exact ⟨a,rfl,h2,h1⟩
        ·obtain ⟨hil,rfl⟩:=hget i e' h1
         obtain ⟨h3,h4,h5⟩:=hFG i hil
         refine h5.2 j c _ h2 ?_
         have:j < (G i).length:=by rw [<-h5.1];exact (List.getElem?_eq_some_iff.1 h2).1
         rw [List.getD_eq_getElem?_getD,List.getElem?_eq_getElem this];rfl
       rw [hll] at hrv
       exact hrv
    ·cases hl
   ·rename_i fs hu
    obtain ⟨p,hp,hl⟩:=Option.bind_eq_some_iff.1 hl
    split at hl
    ·rename_i hpt
     cases hl
     obtain ⟨ys,n',hn',hy,hlen,hyl,hf⟩:=DataW.trod_struct hu h
     have go: ∀(L:List Field) (off:Nat) (q:List Sh×Nat),xe (s7 P m) P.cellsOf L off=some q->q.2=cs.length->(∀f∈L,∃y,DataW.trod enc P w base spare held n' f.type ((cs.drop f.offset).take (P.cellsOf f.type))=some y)->
       ∃ivs,Typed q.1 ivs/\gJ w (fun b=>b < w.heap.size) ivs (cs.drop off):=by
      intro L
      induction L with
      | nil=>
        intro off q hq hql _
        simp only [xe,Option.some.injEq] at hq
        subst hq
        simp only at hql
        subst hql
        exact ⟨[],⟨rfl,fun j s c h=>by simp at h⟩,by simp [gJ]⟩
      | cons f L ih=>
        intro off q hq hql hall
        simp only [xe] at hq
        split at hq
        ·rename_i hoff
         obtain ⟨lf,h1,hq⟩:=Option.bind_eq_some_iff.1 hq
         split at hq
         ·rename_i hlf
          obtain ⟨q2,h2,rfl⟩:=Option.map_eq_some_iff.1 hq
          obtain ⟨y,hy2⟩:=hall f List.mem_cons_self
          obtain ⟨iv1,g1,g2⟩:=oJ m f.type lf h1 _ _ _ hy2
          obtain ⟨iv2,g3,g4⟩:=ih (off+lf.length) q2 h2 hql fun f' hf'=>hall f' (List.mem_cons_of_mem _ hf')
          refine ⟨iv1++iv2,g1.append g3,?_⟩
          have:=g2.append g4
          rw [hoff,<-hlf,<-List.drop_drop,List.take_append_drop] at this
          exact this
         ·cases hq
        ·cases hq
     have:=go fs.toList 0 p hp (by rw [hpt,hlen]) fun f hf'=>by
      obtain ⟨i,hi'⟩:=List.getElem?_of_mem hf'
      have hi2:fs[i]? =some f:=by rw [<-Array.getElem?_toList];exact hi'
      have h1:=hf i f hi2
      have h2:i < ys.length:=by rw [hyl];exact (Array.getElem?_eq_some_iff.1 hi2).1
      exact ⟨ys[i],by rw [h1,List.getElem?_eq_getElem h2]⟩
     simpa using this
    ·cases hl
   ·rename_i k e hu
    obtain ⟨le,he,hl⟩:=Option.bind_eq_some_iff.1 hl
    split at hl
    ·rename_i hsz
     cases hl
     obtain ⟨ys,n',hn',hy,hlen,hyl,hf⟩:=DataW.trod_array hu h
     have go: ∀r,r<=k-> ∃ivs,Typed ((List.replicate r le).flatten) ivs/\gJ w (fun b=>b < w.heap.size) ivs (cs.drop ((k - r)*P.cellsOf e)):=by
      intro r
      induction r with
      | zero=>
        intro _
        have:cs.drop ((k - 0)*P.cellsOf e)=[]:=List.drop_eq_nil_of_le (by rw [hlen,hsz.2,Nat.sub_zero];exact Nat.le_refl _)
        rw [this]
        exact ⟨[],⟨rfl,fun j s c h=>by simp at h⟩,⟨rfl,fun j c v h=>by simp at h⟩⟩
      | succ r ih=>
        intro hr
        obtain ⟨iv2,g3,g4⟩:=ih (by omega)
        have hi:k - (r+1) < k:=by omega
        have h1:=hf (k - (r+1)) hi
        rw [List.getElem?_eq_getElem (by omega)] at h1
        obtain ⟨iv1,g1,g2⟩:=oJ m e le he _ _ _ h1
        refine ⟨iv1++iv2,by rw [List.replicate_succ,List.flatten_cons];exact g1.append g3,?_⟩
        have:=g2.append g4
        rw [show (k - r)*P.cellsOf e=(k - (r+1))*P.cellsOf e+P.cellsOf e by rw [<-Nat.succ_mul];congr 1;omega,<-List.drop_drop,List.take_append_drop] at this
        exact this
     have:=go k (Nat.le_refl _)
     simpa using this
    ·cases hl
   ·cases hl
theorem Oz {r:Reach} {b0:Nat} {t:TypeId} {v:Value} (hv:Value.okWide P w r b0 t v):(∃fs,P.underlying t=some (.struct fs)/\ ∃cs,v= .agg cs/\cs.size=P.cellsOf t)\/(∃n e,P.underlying t=some (.array n e)/\ ∃cs,v= .agg cs/\cs.size=P.cellsOf t)\/v.cells.toList=[v]:=by
 unfold Value.okWide at hv
 split at hv
 ·rename_i fs hu
  obtain ⟨cs,h1,h2,_⟩:=hv
  exact .inl ⟨fs,hu,cs,h1,h2⟩
 ·rename_i n e hu
  obtain ⟨cs,h1,h2,_⟩:=hv
  exact .inr (.inl ⟨n,e,hu,cs,h1,h2⟩)
 ·refine .inr (.inr ?_)
  cases v with
  | agg cs=>
    exfalso
    unfold Cell.okWide at hv
    split at hv<;>simp_all [Cell.ok]
  | _=>rfl
theorem RX {r:Reach} {b0 m:Nat} {t:TypeId} {l:List Sh} (hl:s7 P m t=some l) (hone:l.length=1->cV P t=false) (hpos:0 < l.length) {v:Value} {d:DataW H} {p:List MemPlace} (hv:Value.okWide P w r b0 t v) (h:DataW.Trod enc P w base spare held t v d p):
  ∃ivs,Typed l ivs/\ArgRel w (fun b=>b < w.heap.size) ivs v:=by
 obtain ⟨fuel,hf⟩:=h
 obtain ⟨ivs,h1,h2⟩:=oJ m t l hl _ _ _ hf
 refine ⟨ivs,h1,?_⟩
 rcases Oz hv with ⟨fs,hu,cs,rfl,hs⟩ | ⟨n,e,hu,cs,rfl,hs⟩ | hc
 ·refine .inr ⟨?_,cs,rfl,?_,fun i x u hx hu'=>h2.2 i x u hx ?_⟩
  ·rw [h1.1]
   have:l.length≠1:=fun h=>by have:=hone h;unfold cV at this;rw [hu] at this;cases this
   omega
  ·have:=h2.1;simp [Value.cells] at this;exact this.symm
  ·simp only [Value.cells,Array.getElem?_toList];exact hu'
 ·refine .inr ⟨?_,cs,rfl,?_,fun i x u hx hu'=>h2.2 i x u hx ?_⟩
  ·rw [h1.1]
   have:l.length≠1:=fun h=>by have:=hone h;unfold cV at this;rw [hu] at this;cases this
   omega
  ·have:=h2.1;simp [Value.cells] at this;exact this.symm
  ·simp only [Value.cells,Array.getElem?_toList];exact hu'
 ·rw [hc] at h2
  match ivs,h2 with
  | [x],h2=>exact .inl ⟨x,rfl,h2.2 0 x v rfl rfl⟩
  | [],h2=>exact absurd h2.1 (by simp)
  | _::_::_,h2=>exact absurd h2.1 (by simp)
end
def xD (P:Program):List TypeId->Option (List (List Sh))
 | []=>some []
 | t::ts=>(s7 P 12 t).bind fun l=>if 0 < l.length/\(l.length=1->cV P t=false) then (xD P ts).map (l:: ·) else none
inductive TypedAll:List (List Sh)->List (List IV)->Prop
 | nil:TypedAll [] []
 | cons {l:List Sh} {ls:List (List Sh)} {c:List IV} {cs:List (List IV)} (h:Typed l c) (t:TypedAll ls cs):TypedAll (l::ls) (c::cs)
section
variable {H:Type} {enc:TypeId×Value->H} {P:Program} {w:World} {base:Nat} {spare:Nat->Bool} {held:Bool}
theorem A4 {r:Reach} {b0:Nat}: ∀(ts:List TypeId) (L:List (List Sh)),xD P ts=some L-> ∀(vs:List Value) (ds:List (DataW H)) (ps:List MemPlace),(∀(j:Nat) t v,ts[j]? =some t->vs[j]? =some v->Value.okWide P w r b0 t v)->
  DataW.TrodAll enc P w base spare held ts vs ds ps-> ∃as,TypedAll L as/\bh w (fun b=>b < w.heap.size) as vs/\ds.length=ts.length
 | [],L,hL,vs,ds,ps,_,h=>by
   cases hL
   obtain ⟨rfl,rfl,rfl⟩:=trodAll_nil h
   exact ⟨[],.nil,⟨rfl,fun i c v h=>by simp at h⟩,rfl⟩
 | t::ts,L,hL,vs,ds,ps,hv,h=>by
   simp only [xD] at hL
   obtain ⟨l,h1,hL⟩:=Option.bind_eq_some_iff.1 hL
   split at hL
   ·rename_i hc
    obtain ⟨L',h2,rfl⟩:=Option.map_eq_some_iff.1 hL
    obtain ⟨v,vs1,d,ds1,a,b,rfl,rfl,rfl,h3,h4⟩:=trodAll_cons h
    obtain ⟨c,g1,g2⟩:=RX h1 hc.2 hc.1 (hv 0 t v rfl rfl) h3
    obtain ⟨as,g3,g4,g5⟩:=A4 ts L' h2 vs1 ds1 b (fun j t' v' hj1 hj2=>hv (j+1) t' v' (by simpa using hj1) (by simpa using hj2)) h4
    refine ⟨c::as,.cons g1 g3,⟨by simp [g4.1],fun i c' v' hi hj=> ?_⟩,by simp [g5]⟩
    cases i with
    | zero=>cases hi;cases hj;exact g2
    | succ i=>exact g4.2 i c' v' (by simpa using hi) (by simpa using hj)
   ·cases hL
end
theorem We {H:Type} {enc:TypeId×Value->H} {P:Program} {g:FuncId} {fn:Func} {s:ChangeSpec} {fnl:List (List IV)->Option (List IV)} {L:List (List Sh)} {tb:TypeId} (hsig:ah P g ⟨.pure,true,[1],0,fnl⟩) (hvars:s.vars=[])
  (hres:fn.resultTypes= #[tb]) (hb:P.underlying tb=some .bool) (hL:xD P fn.params.toList=some L) (hlaid:laidOutB P=true) (hrows:fn.params.toList.all (fun t=>P.readableRec t&&decide (t < P.types.size))=true)
  (hspec: ∀(H:Type) (ds:List (DataW H)),ds.length=fn.params.toList.length->s.fn H ds={ results:=[.lit (.bool true)],args:=ds }) (hlaw: ∀as,TypedAll L as->fnl as=some [.bool true])
  {W:World} {base:Nat} {args:Array Value} {ds gs:List (DataW H)} {before:List MemPlace} (hval: ∀(j:Nat) t v,fn.params[j]? =some t->args[j]? =some v->Value.okWide P W .any base t v) (hW:DataW.Whole enc P fn.params.toList s.vars false W args.toList ds gs before):
  Calls P g args W fun e W'=> ∃v,e= .returned v/\s.post enc P fn false true false false W args v W':=by
 have hW':=hW
 obtain ⟨p,q,hA,hV,rfl,hfz,hnd⟩:=hW
 rw [hvars] at hV
 obtain ⟨rfl,rfl⟩:=trodVars_none hV
 obtain ⟨as,h1,h2,h3⟩:=A4 fn.params.toList L hL args.toList ds p (fun j t v hj1 hj2=>hval j t v (by rw [<-Array.getElem?_toList];exact hj1) (by rw [<-Array.getElem?_toList];exact hj2)) hA
 have hc:=hsig.1 W (fun b=>b < W.heap.size) W (fun b=>b < W.heap.size) as args.toList _ (.refl _ _) (fun _ h=>h) h2 (hlaw as h1)
 simp only [List.append_nil,Array.toArray_toList] at hc
 refine hc.mono fun e W' he=> ?_
 obtain ⟨v,rfl,hbel,hr⟩:=he
 have hv:v= .bool true:=by
  rcases hr with ⟨_,h⟩ | ⟨h,_⟩
  ·cases h;rfl
  ·omega
 subst hv
 have hlt:=hW'.lt
 have hargs: ∀(ts:List TypeId) (vs:List Value) (ds:List (DataW H)) (ps:List MemPlace),ts.all (fun t=>P.readableRec t&&decide (t < P.types.size))=true->DataW.TrodAll enc P W 0 (fun _=>true) true ts vs ds ps->(∀x∈ps,x.block < W.heap.size)->
   DataW.TrodAll enc P W' 0 (fun b=>decide (b < W.heap.size)) true ts vs ds ps:=by
  intro ts
  induction ts with
  | nil=>
    intro vs ds ps _ h _
    obtain ⟨rfl,rfl,rfl⟩:=trodAll_nil h
    rfl
  | cons t ts ih=>
    intro vs ds ps hr h hlt
    obtain ⟨v,vs1,d,ds1,a,b,rfl,rfl,rfl,h3,h4⟩:=trodAll_cons h
    simp only [List.all_cons,Bool.and_eq_true,decide_eq_true_eq] at hr
    exact ⟨a,b,Below.trod hlaid hr.1.1 hr.1.2 h3 hbel fun x hx=>hlt x (List.mem_append_left _ hx),ih vs1 ds1 b hr.2 h4 fun x hx=>hlt x (List.mem_append_right _ hx),rfl⟩
 have hsp:=hspec H ds h3
 refine ⟨_,rfl,ds,[],p++[],[],p,[],hW',?_,?_,?_,hbel.frame _,fun h=>by cases h⟩
 ·rw [List.append_nil,hsp,hres]
  exact ⟨[],[],⟨0+1,by
   rw [DataW.trod_step]
   unfold DataW.trodStep
   rw [hb];rfl⟩,rfl,rfl⟩
 ·rw [List.append_nil,hsp]
  exact hargs _ _ _ _ hrows hA fun x hx=>hlt x (by simpa using hx)
 ·rw [List.append_nil,hsp,hvars]
  exact rfl
end Go.AM
namespace Go.AM
def Cl (s:ByteArray):List (List IV):=s.data.toList.map fun b=>[.int .u8 b.toNat]
def QS (l:List (List IV)):Option (List IV):=
 match l with
 | [[_,.lst es],[.str s]]=>if es.length+s.size<=140737488355328 then some [.nilp,.lst (es++Cl s),.int .i64 s.size,.nilf] else none
 | _=>none
def NF (l:List (List IV)):Option (List IV):=
 match l with
 | [[_,.lst es],[.int .u8 c]]=>if es.length+1<=140737488355328 then some [.nilp,.lst (es++[[.int .u8 c]]),.nilf] else none
 | _=>none
def Yx (sz bytes:Nat) (x:IV):Option (List IV):=
 match x with
 | .int .i64 n=>if 0<=n/\n.toNat*(bytes+1)<=2 ^ 40/\0 < sz then some [] else none
 | _=>none
def P6 (name:String) (Part:IV->Option (List IV)) (C:IV->List Nat->List (List IV)->Option (List IV)) (y:IV):Option (List IV):=(C (IL name y) [1] []).bind fun r=>(Part (nth r 0)).bind fun r2=>some [nth r2 0]
def xI (Zig Put:IV->Option (List IV)):Int->List (List IV)->ByteArray->Option (List IV)
 | _,[],acc=>some [.str acc]
 | last,[.int .i64 n]::es,acc=>(Zig (.int .i64 (IntKind.i64.wrap (n - last)))).bind fun z=>(Put (nth z 0)).bind fun r=>
   match nth r 0 with
   | .str s=>if acc.size+s.size<=140737488355328 then xI Zig Put n es (acc++s) else none
   | _=>none
 | _,_::_,_=>none
def NS (Zig Put:IV->Option (List IV)) (x:IV):Option (List IV):=
 match x with
 | .lst es=>if es.length<=2 ^ 40 then xI Zig Put 0 es ⟨#[]⟩ else none
 | _=>none
end Go.AM
namespace Go.AM
open Go.RowKit Go.Lib
def qh (T e:TypeId):List Sc:=[.sn T 2,.buf 1 (some e)]
theorem wU (w:World) (ob:Obj):Sizes w (w.drew.alloc ob):=fun b c T z h=>⟨c,z,(Lib.alloc_old w.drew ob b (Array.getElem?_eq_some_iff.1 h).1).trans h,rfl⟩
theorem B0 {w:World} {g:Nat} {cur:Array Value} {e:TypeId} {z0:Nat×Nat} (h:w.heap[g]? =some (.cells cur e z0)) {c':Array Value} (hs:c'.size=cur.size):Sizes w (w.setRow g c'):=fun b c T z hb=>by
 by_cases hbg:b=g
 ·subst hbg
  rw [h] at hb;cases hb
  exact ⟨c',_,setRow_heap w b cur c' e _ h,hs⟩
 ·exact ⟨c,z,(setRow_other w g b c' hbg).trans hb,rfl⟩
theorem D4 {w w':World} (h:w.grownBy w' none):Sizes w w':=fun b c T z hb=>⟨c,z,(h.block b (Array.getElem?_eq_some_iff.1 hb).1 (by simp)).trans hb,rfl⟩
section
variable {P:Program} (w:World)
theorem Yo (t u ty e:TypeId) (i:TypeInfo) (ht:P.underlying t=some (.slice e)) (hu:P.underlying u=some .string) (hi:P.info? e=some i) (hz:i.zero=some (.int .u8 0)) (hsize:i.size=1) (hby:i.bytes=1)
  (v:Value) (n:Nat) (xs:List Value) (hown:w.ownsRow 0 e 1 v n xs) (s:ByteArray) (h63:n+s.size<=maxLen) (hbytes:n+s.size<=140737488355328):
  ∃v' w',(Builtin.append_ #[t,u] ty #[v,.string s]).run P w= .ok v' w'/\w'.ownsRow 0 e 1 v' (n+s.size) (xs++strCells s)/\w.grownBy w' v.ownBlock/\Sizes w w'/\ ∀k,v'.ownBlock=some k->v.ownBlock=some k\/w.heap.size<=k:=by
 obtain ⟨v',w',hr,h2,h3,h4⟩:=run_append_own_string (P:=P) w 0 t u ty e i ht hu hi hz hsize hby v n xs hown s h63 hbytes (Nat.zero_le _)
 refine ⟨v',w',hr,h2,h3,?_⟩
 rcases hown.2 with ⟨rfl,rfl⟩ | ⟨g,cap,cur,rfl,hbg,hg,hnc,hcm,hcs,htake⟩
 ·refine ⟨D4 h3,fun k hk=> ?_⟩
  by_cases hm:s.size=0
  ·rw [h4.2 ⟨rfl,hm⟩] at hk;simp [Value.ownBlock] at hk
  ·have hr':=run_append_nil_string (P:=P) w t u ty e i (.int .u8 0) ht hu hi hz s (by omega) (by omega) (by rw [hby];omega)
   rw [hr] at hr'
   cases hr'
   simp [Value.ownBlock] at hk
   exact .inr (by omega)
 ·by_cases hroom:n+s.size<=cap
  ·have hr':=run_append_room_string (P:=P) w t u ty e i ht hu hi hsize g n cap cur hg s hroom (by omega)
   rw [hr] at hr'
   cases hr'
   refine ⟨B0 hg ?_,fun k hk=> .inl hk⟩
   simp only [List.size_toArray,List.length_append,List.length_take,List.length_drop,Array.length_toList,strCells_length]
   omega
  ·have hxl:xs.length=n:=by simpa using hown.1
   have holds: ∀j u,xs[j]? =some u->w.cell? ((⟨g,0,none⟩:Addr).add j)=some u:=hown.cells (g:=g) rfl
   have hr':=run_append_grow_string (P:=P) w t u ty e i (.int .u8 0) ht hu hi hz ⟨g,0,none⟩ n cap xs (by rw [hsize];simpa using hxl) holds s (by omega) (by simp only [maxLen] at h63;omega) (by rw [hby];exact growslice_fits (by omega) (by omega))
   rw [hr] at hr'
   cases hr'
   exact ⟨wU w _,fun k hk=> .inr (by simp [Value.ownBlock] at hk;omega)⟩
theorem XJ (t ty e:TypeId) (i:TypeInfo) (ht:P.underlying t=some (.slice e)) (hi:P.info? e=some i) (hz:i.zero=some (.int .u8 0)) (hsize:i.size=1) (hby:i.bytes=1)
  (v:Value) (n:Nat) (xs:List Value) (hown:w.ownsRow 0 e 1 v n xs) (a:Addr) (m c:Nat) (news:List Value) (hl:news.length=m) (hnews: ∀j u,news[j]? =some u->w.cell? (a.add j)=some u) (h1: ∀u∈news,u.oneCell'=true) (h63:n+m<=maxLen) (hbytes:n+m<=140737488355328):
  ∃v' w',(Builtin.append_ #[t,t] ty #[v,.slice (some a) m c]).run P w= .ok v' w'/\w'.ownsRow 0 e 1 v' (n+m) (xs++news)/\w.grownBy w' v.ownBlock/\Sizes w w'/\ ∀k,v'.ownBlock=some k->v.ownBlock=some k\/w.heap.size<=k:=by
 obtain ⟨v',w',hr,h2,h3,h4⟩:=run_append_own (P:=P) w 0 t ty e i (.int .u8 0) 1 1 ht hi hz hsize hby rfl (by decide) v n xs hown a m c news (by simpa using hl) hnews h1 h63 (by omega) (Nat.zero_le _)
 refine ⟨v',w',hr,h2,h3,?_⟩
 rcases hown.2 with ⟨rfl,rfl⟩ | ⟨g,cap,cur,rfl,hbg,hg,hnc,hcm,hcs,htake⟩
 ·refine ⟨D4 h3,fun k hk=> ?_⟩
  by_cases hm:m=0
  ·rw [h4.2 ⟨rfl,hm⟩] at hk;simp [Value.ownBlock] at hk
  ·have hr':=run_append_nil (P:=P) w t ty e i (.int .u8 0) ht hi hz a m c news (by rw [hsize];simpa using hl) hnews (by omega) (by omega) (by rw [hby];omega)
   rw [hr] at hr'
   cases hr'
   simp [Value.ownBlock] at hk
   exact .inr (by omega)
 ·by_cases hroom:n+m<=cap
  ·have hr':=run_append_room (P:=P) w t ty e i ht hi g n cap cur hg a m c news (by rw [hsize];simpa using hl) hnews h1 hroom (by rw [hsize];omega)
   rw [hr] at hr'
   cases hr'
   refine ⟨B0 hg ?_,fun k hk=> .inl hk⟩
   simp only [List.size_toArray,List.length_append,List.length_take,List.length_drop,Array.length_toList,hsize]
   omega
  ·have holds: ∀j u,xs[j]? =some u->w.cell? ((⟨g,0,none⟩:Addr).add j)=some u:=hown.cells (g:=g) rfl
   have hr':=run_append_grow (P:=P) w t ty e i (.int .u8 0) ht hi hz ⟨g,0,none⟩ n cap xs (by rw [hsize];exact hown.1) holds a m c news (by rw [hsize];simpa using hl) hnews (by omega) (by simp only [maxLen] at h63;omega) (by rw [hby];exact growslice_fits (by omega) (by omega))
   rw [hr] at hr'
   cases hr'
   exact ⟨wU w _,fun k hk=> .inr (by simp [Value.ownBlock] at hk;omega)⟩
theorem HA {ops:Array Oper} {rest:List Oper} {o:Oper} {a:Act} {Q:Exit->Act->World->Prop} (hgd:o.guard=none) (sl x:Operand) (t u:TypeId)
  (ho:o.op= .call { callee:= .builtin .append,args:= #[sl,x],argTypes:= #[t,u] }) (e:TypeId) (i:TypeInfo) (ht:P.underlying t=some (.slice e)) (hu:P.underlying u=some .string) (hi:P.info? e=some i) (hz:i.zero=some (.int .u8 0)) (hsize:i.size=1) (hby:i.bytes=1)
  (v:Value) (n:Nat) (xs:List Value) (hs:a.eval sl=v) (hown:w.ownsRow 0 e 1 v n xs) (s:ByteArray) (hx:a.eval x= .string s) (h63:n+s.size<=maxLen) (hbytes:n+s.size<=140737488355328)
  (h: ∀v' w',w'.ownsRow 0 e 1 v' (n+s.size) (xs++strCells s)->w.grownBy w' v.ownBlock->Sizes w w'->(∀k,v'.ownBlock=some k->v.ownBlock=some k\/w.heap.size<=k)->wpList P ops Q rest (a.put o.dst v') w'):wpList P ops Q (o::rest) a w:=by
 refine wpList_plain hgd fun K hK=> ?_
 obtain ⟨v',w',hr,h2,h3,h4,h5⟩:=Yo (P:=P) w t u o.type e i ht hu hi hz hsize hby v n xs hown s h63 hbytes
 unfold Oper.wp execOp
 simp only [ho,resolve,invoke,builtin,Sem.run_bind,Sem.run_pure,Result.andThen_ok,List.map_toArray,List.map_cons,List.map_nil,hs,hx,hr]
 exact hK _ _ (h v' w' h2 h3 h4 h5)
theorem GH {ops:Array Oper} {rest:List Oper} {o:Oper} {a:Act} {Q:Exit->Act->World->Prop} (hgd:o.guard=none) (sl x:Operand) (t:TypeId)
  (ho:o.op= .call { callee:= .builtin .append,args:= #[sl,x],argTypes:= #[t,t] }) (e:TypeId) (i:TypeInfo) (ht:P.underlying t=some (.slice e)) (hi:P.info? e=some i) (hz:i.zero=some (.int .u8 0)) (hsize:i.size=1) (hby:i.bytes=1)
  (v:Value) (n:Nat) (xs:List Value) (hs:a.eval sl=v) (hown:w.ownsRow 0 e 1 v n xs) (ad:Addr) (m c:Nat) (news:List Value) (hx:a.eval x= .slice (some ad) m c) (hl:news.length=m) (hnews: ∀j u,news[j]? =some u->w.cell? (ad.add j)=some u) (h1: ∀u∈news,u.oneCell'=true) (h63:n+m<=maxLen) (hbytes:n+m<=140737488355328)
  (h: ∀v' w',w'.ownsRow 0 e 1 v' (n+m) (xs++news)->w.grownBy w' v.ownBlock->Sizes w w'->(∀k,v'.ownBlock=some k->v.ownBlock=some k\/w.heap.size<=k)->wpList P ops Q rest (a.put o.dst v') w'):wpList P ops Q (o::rest) a w:=by
 refine wpList_plain hgd fun K hK=> ?_
 obtain ⟨v',w',hr,h2,h3,h4,h5⟩:=XJ (P:=P) w t o.type e i ht hi hz hsize hby v n xs hown ad m c news hl hnews h1 h63 hbytes
 unfold Oper.wp execOp
 simp only [ho,resolve,invoke,builtin,Sem.run_bind,Sem.run_pure,Result.andThen_ok,List.map_toArray,List.map_cons,List.map_nil,hs,hx,hr]
 exact hK _ _ (h v' w' h2 h3 h4 h5)
end
def Bs (w:World) (ok:Nat->Prop) (es:List (List IV)) (bs:List Value):Prop:=
 es.length=bs.length/\(∀e∈es,e.length=1)/\ ∀(i:Nat) (e:List IV) (x:IV),es[i]? =some e->e[0]? =some x-> ∃v,bs[i]? =some v/\RV w ok x v
theorem Bs.append {w:World} {ok:Nat->Prop} {es fs:List (List IV)} {bs cs:List Value} (h:Bs w ok es bs) (k:Bs w ok fs cs):Bs w ok (es++fs) (bs++cs):=by
 obtain ⟨h1,h2,h3⟩:=h
 obtain ⟨k1,k2,k3⟩:=k
 refine ⟨by simp [h1,k1],fun e he=> ?_,fun i e x he hx=> ?_⟩
 ·rcases List.mem_append.1 he with g | g
  ·exact h2 e g
  ·exact k2 e g
 ·by_cases hi:i < es.length
  ·rw [List.getElem?_append_left hi] at he
   obtain ⟨v,g1,g2⟩:=h3 i e x he hx
   exact ⟨v,by rw [List.getElem?_append_left (by omega)];exact g1,g2⟩
  ·rw [List.getElem?_append_right (by omega)] at he
   obtain ⟨v,g1,g2⟩:=k3 _ e x he hx
   exact ⟨v,by rw [List.getElem?_append_right (by omega),<-h1];exact g1,g2⟩
theorem Bs.keeps {w w':World} {ok ok':Nat->Prop} (hk:Keeps w ok w' ok') {es:List (List IV)} {bs:List Value} (h:Bs w ok es bs):Bs w' ok' es bs:=
 ⟨h.1,h.2.1,fun i e x he hx=>by obtain ⟨v,g1,g2⟩:=h.2.2 i e x he hx;exact ⟨v,g1,g2.keeps hk⟩⟩
theorem ZD (w:World) (ok:Nat->Prop) (s:ByteArray):Bs w ok (Cl s) (strCells s):=by
 refine ⟨by simp [Cl,strCells],fun e he=> ?_,fun i e x he hx=> ?_⟩
 ·obtain ⟨b,_,rfl⟩:=List.mem_map.1 he;rfl
 ·simp only [Cl,List.getElem?_map] at he
  obtain ⟨b,hb,rfl⟩:=Option.map_eq_some_iff.1 he
  simp at hx;subst hx
  exact ⟨.int .u8 b.toNat,by simp [strCells,hb],.int _ _⟩
theorem Zl (w:World) (ok:Nat->Prop) (c:Int):Bs w ok [[.int .u8 c]] [.int .u8 c]:=by
 refine ⟨rfl,by simp,fun i e x he hx=> ?_⟩
 cases i with
 | zero=>simp at he;subst he;simp at hx;subst hx;exact ⟨_,rfl,.int _ _⟩
 | succ i=>simp at he
structure BdAt (w:World) (T e:TypeId) (b:Nat) (p u:Value) (n:Nat) (bs:List Value):Prop where
 heap:w.heap[b]? =some (.cells #[p,u] T (0,0))
 addr:p= .pointer none\/p= .pointer (some ⟨b,0,none⟩)
 own:w.ownsRow 0 e 1 u n bs
 ne:u.ownBlock≠some b
def UY (u:Value) (n:Nat):Pl:=match u with | .slice (some a) _ _=>⟨some (a.block,0),n,1⟩ | _=>⟨none,n,1⟩
theorem ObjVal.bd {w:World} {ok:Nat->Prop} {T e:TypeId} {vs:List IV} {v:Value} {pl:Pl} {pA:Nat->Pl} (tv:ObjVal w ok (qh T e) vs v pl pA):
  ∃b p u es bs,v= .pointer (some ⟨b,0,none⟩)/\pl.loc=some (b,0)/\BdAt w T e b p u es.length bs/\nth vs 1= .lst es/\Bs w ok es bs/\ ∀k,u.ownBlock=some k↔ObjBuf (qh T e) pA k:=by
 obtain ⟨b,base,c,T',h1,h2,h3,h4,h5⟩:=tv.box
 obtain ⟨p,h6,b',h7,h8,c',z',h9,h10⟩:=h5 0 (.sn T 2) rfl
 rw [h1] at h7;cases h7
 rw [h3] at h9;cases h9
 obtain ⟨u,h11,h12,h13,h14⟩:=h5 1 (.buf 1 (some e)) rfl
 obtain ⟨a1,es,a2,a3,a4,a5,a6⟩:=h13
 have hc:c= #[p,u]:=by
  apply Array.ext_getElem?
  intro i
  match i with
  | 0=>simpa using h6
  | 1=>simpa using h11
  | i+2=>simp;omega
 subst hc
 have hbuf: ∀k,ObjBuf (qh T e) pA k↔ ∃base,(pA 1).loc=some (k,base):=fun k=>by
  constructor
  ·rintro ⟨j,sz,base,g1,g2⟩
   match j,g1 with
   | 0,g1=>simp [qh] at g1
   | 1,g1=>exact ⟨base,g2⟩
   | j+2,g1=>simp [qh] at g1
  ·rintro ⟨base,g⟩
   exact ⟨1,(1,some e),base,rfl,g⟩
 rcases h14 with ⟨rfl,g1,g2⟩ | ⟨g,cap,g1,rfl,g2,g3,cc,z,g4,g5⟩
 ·have hes:=a5 g2
  subst hes
  refine ⟨b,p,_,[],[],h2,h1,⟨h3,h8,World.ownsRow_nil _ _ _ _,by simp [Value.ownBlock]⟩,a2,⟨rfl,by simp,by simp⟩,fun k=> ?_⟩
  rw [hbuf,g2]
  simp [Value.ownBlock]
 ·obtain ⟨cc',T2,b1,b2,b3⟩:=a6 g 0 g1
  rw [b1] at g4;cases g4
  rw [<-a3] at g2
  have hpsz:(pA 1).sz=1:=a1
  refine ⟨b,p,.slice (some ⟨g,0,none⟩) es.length cap,es,cc.toList.take es.length,h2,h1,⟨by rw [a3];exact h3,h8,⟨?_,.inr ⟨g,cap,cc,rfl,Nat.zero_le _,b1,g2,g3,by rw [g5,hpsz],by simp⟩⟩,?_⟩,a2,⟨?_,a4,fun i f x hf hx=> ?_⟩,fun k=> ?_⟩
  ·simp;omega
  ·intro hk
   simp only [Value.ownBlock,Option.some.injEq] at hk
   exact tv.apart b 0 h1 ((hbuf b).2 ⟨0,by rw [g1,hk]⟩)
  ·simp;omega
  ·obtain ⟨v,k1,k2⟩:=b3 i 0 f x hf hx
   have hi:=(List.getElem?_eq_some_iff.1 hf).1
   refine ⟨v,?_,k2⟩
   rw [List.getElem?_take_of_lt hi]
   simpa using k1
  ·rw [hbuf,g1]
   simp [Value.ownBlock]
theorem BdAt.obj {w:World} {ok:Nat->Prop} {T e:TypeId} {r:List IV} {b:Nat} {p u:Value} {es:List (List IV)} {bs:List Value} {pl:Pl} (h:BdAt w T e b p u es.length bs) (hl:pl.loc=some (b,0)) (hr:nth r 1= .lst es) (hb:Bs w ok es bs)
  (hno: ¬ok b) (hno2: ∀k,u.ownBlock=some k-> ¬ok k):
  ObjVal w ok (qh T e) r (.pointer (some ⟨b,0,none⟩)) pl (fun _=>UY u es.length)/\ ∀k,ObjBuf (qh T e) (fun _=>UY u es.length) k↔u.ownBlock=some k:=by
 have hbuf: ∀k,ObjBuf (qh T e) (fun _=>UY u es.length) k↔u.ownBlock=some k:=fun k=>by
  have:(∃base,(UY u es.length).loc=some (k,base))↔u.ownBlock=some k:=by
   unfold UY Value.ownBlock
   split<;>simp
  rw [<-this]
  constructor
  ·rintro ⟨j,sz,base,g1,g2⟩
   exact ⟨base,g2⟩
  ·rintro ⟨base,g⟩
   exact ⟨1,(1,some e),base,rfl,g⟩
 refine ⟨⟨⟨b,0,_,T,hl,rfl,h.heap,by simp [qh],fun j s hj=> ?_⟩,fun b' base' hb' hk=> ?_,fun j k sz sz' b1 base base' hj hk _ _=> ?_,fun k hk=> ?_⟩,hbuf⟩
 ·match j,hj with
  | 0,hj=>
    simp [qh] at hj;subst hj
    exact ⟨p,by simp,b,hl,h.addr,_,_,h.heap,rfl⟩
  | 1,hj=>
    simp [qh] at hj;subst hj
    refine ⟨u,by simp,by decide,?_,?_⟩
    ·rw [hr]
     rcases h.own.2 with ⟨rfl,hn⟩ | ⟨g,cap,cur,rfl,_,hg,hnc,hcm,hcs,htake⟩
     ·refine ⟨rfl,es,rfl,rfl,hb.2.1,fun _=>List.length_eq_zero_iff.1 hn,fun b base hb=>by cases hb⟩
     ·refine ⟨rfl,es,rfl,rfl,hb.2.1,fun h=>by simp [UY] at h,fun b2 base2 hb2=> ?_⟩
      cases hb2
      refine ⟨cur,e,hg,by omega,fun i j f x hf hx=> ?_⟩
      have hlen:=hb.2.1 f (List.mem_of_getElem? hf)
      have hj:j=0:=by have:=(List.getElem?_eq_some_iff.1 hx).1;omega
      subst hj
      obtain ⟨v,g1,g2⟩:=hb.2.2 i f x hf hx
      refine ⟨v,?_,g2⟩
      have hi:=(List.getElem?_eq_some_iff.1 hf).1
      rw [<-htake,Nat.mul_one,List.getElem?_take_of_lt hi] at g1
      simpa using g1
    ·rcases h.own.2 with ⟨rfl,hn⟩ | ⟨g,cap,cur,rfl,_,hg,hnc,hcm,hcs,htake⟩
     ·exact .inl ⟨rfl,hn,rfl⟩
     ·exact .inr ⟨g,cap,rfl,rfl,hnc,hcm,cur,_,hg,hcs⟩
  | j+2,hj=>simp [qh] at hj
 ·rw [hl] at hb';cases hb'
  exact h.ne ((hbuf b).1 hk)
 ·match j,k,hj,hk with
  | 0,_,hj,_=>simp [qh] at hj
  | 1,0,_,hk=>simp [qh] at hk
  | 1,1,_,_=>rfl
  | 1,k+2,_,hk=>simp [qh] at hk
  | j+2,_,hj,_=>simp [qh] at hj
 ·rcases hk with ⟨base,hk⟩ | hk
  ·rw [hl] at hk;cases hk;exact hno
  ·exact hno2 k ((hbuf k).1 hk)
structure Grew (w w':World) (b:Nat) (u u':Value):Prop where
 os:w'.os=w.os
 tape:w'.tape=w.tape
 output:w'.output=w.output
 size:w.heap.size<=w'.heap.size
 sizes:Sizes w w'
 other: ∀k,k < w.heap.size->k≠b->u.ownBlock≠some k->w'.heap[k]? =w.heap[k]?
 new: ∀k,u'.ownBlock=some k->u.ownBlock=some k\/w.heap.size<=k
theorem BdAt.alloc {w:World} {T e:TypeId} {b:Nat} {p u:Value} {n:Nat} {bs:List Value} (h:BdAt w T e b p u n bs) (o:Obj):BdAt (w.alloc o) T e b p u n bs:=
 ⟨(Lib.alloc_old w o b (Array.getElem?_eq_some_iff.1 h.heap).1).trans h.heap,h.addr,h.own.alloc o,h.ne⟩
theorem Grew.alloc {w w':World} {b:Nat} {u u':Value} (h:Grew w w' b u u') (o:Obj):Grew w (w'.alloc o) b u u':=
 ⟨h.os,h.tape,h.output,Nat.le_trans h.size (by show w'.heap.size<=(w'.heap.push o).size;simp),h.sizes.trans fun b c T z hb=>⟨c,z,(Lib.alloc_old w' o b (Array.getElem?_eq_some_iff.1 hb).1).trans hb,rfl⟩,
   fun k hk hkb hku=>(Lib.alloc_old w' o k (Nat.lt_of_lt_of_le hk h.size)).trans (h.other k hk hkb hku),h.new⟩
section
variable {P:Program} {g:FuncId} {T e:TypeId}
theorem VY {res:List Nat} {fn:List (List IV)->Option (List IV)} (hnil: ∀rest,fn ([.nilp]::rest)=none)
  (h: ∀(w:World) (ok:Nat->Prop) (as:List (List IV)) (vs:List IV) (args:List Value) (r:List IV) (es:List (List IV)),bh w ok as args->fn (vs::as)=some r->vs.length=2->nth vs 1= .lst es->
    ∃fs cs v0,nth r 1= .lst (es++fs)/\fs.length=cs.length/\(∀w' ok',Bs w' ok' fs cs)/\(∀w' ok',dI w' ok' res (r.drop 2) v0)/\ ∀b p u bs,BdAt w T e b p u es.length bs->
     Calls P g (.pointer (some ⟨b,0,none⟩)::args).toArray w fun E w'=>E= .returned v0/\ ∃p' u',BdAt w' T e b p' u' (es.length+cs.length) (bs++cs)/\Grew w w' b u u'):
  ah P g ⟨.obj (qh T e),false,res,0,fn⟩:=by
 refine ⟨fun w ok as vs v0 pl pA args r hok hlen tv hin hargs hr=> ?_,fun w ok w1 ok1 as args r _ _ _ hr=> ?_⟩
 ·obtain ⟨b,p,u,es,bs,rfl,hl,hb,hv1,hbs,hbuf⟩:=tv.bd
  obtain ⟨fs,cs,v1,hr1,hfl,hfs,hres,hwalk⟩:=h w ok as vs args r es hargs hr hlen hv1
  refine (hwalk b p u bs hb).mono fun E w' hE=> ?_
  obtain ⟨rfl,p',u',hb',hg⟩:=hE
  have hnob: ¬ok b:=tv.free b (.inl ⟨0,hl⟩)
  have hnou: ∀k,u.ownBlock=some k-> ¬ok k:=fun k hk=>tv.free k (.inr ((hbuf k).1 hk))
  have hkeep:Keeps w ok w' ok:=⟨fun k hk=>hg.other k (hok k hk) (fun e=>hnob (e▸hk)) fun e=>hnou k e hk,fun _ h=>h⟩
  have hlen':(es++fs).length=es.length+cs.length:=by simp [hfl]
  rw [<-hlen'] at hb'
  obtain ⟨tv',hbuf'⟩:=hb'.obj (ok:=ok) (r:=r) hl hr1 ((hbs.keeps hkeep).append (hfs w' ok)) hnob fun k hk=>by
   rcases hg.new k hk with g1 | g1
   ·exact hnou k g1
   ·intro h2;have:=hok k h2;omega
  refine ⟨v1,ok,_,rfl,hg.os,hg.tape,hg.output,hg.size,hg.sizes,fun k hk hno=>hg.other k hk (fun e=>hno (.inl ⟨0,e▸hl⟩)) fun e=>hno (.inr ((hbuf k).1 e)),fun _ h=>h,fun _ h=> .inl h,tv',fun k hk=> ?_,hres w' ok⟩
  have hk':=(hbuf' k).1 hk
  rcases hg.new k hk' with g1 | g1
  ·exact .inr ((hbuf k).1 g1)
  ·exact .inl ⟨g1,(hb'.own.lt k hk').2⟩
 ·exfalso
  revert hr
  simp only
  split
  ·rw [hnil];intro h;cases h
  ·intro h;cases h
theorem Si {c:List IV} {b:UInt8} (h:DA c=some b):c=[.int .u8 b.toNat]:=by
 unfold DA at h
 split at h
 ·rename_i n
  split at h
  ·rename_i hn
   cases h
   have:((UInt8.ofNat n.toNat).toNat:Int)=n:=by
    rw [UInt8.toNat_ofNat',Nat.mod_eq_of_lt (by omega)]
    omega
   rw [this]
  ·cases h
 ·cases h
theorem F6: ∀{es:List (List IV)} {l:List UInt8},es.mapM DA=some l->es=l.map fun b=>[.int .u8 b.toNat]
 | [],l,h=>by simp at h;subst h;rfl
 | c::es,l,h=>by
   simp only [List.mapM_cons] at h
   cases hb:DA c with
   | none=>simp [hb] at h
   | some b=>
     cases hm:es.mapM DA with
     | none=>simp [hb,hm] at h
     | some l'=>
       simp [hb,hm] at h
       subst h
       rw [List.map_cons,<-F6 hm,Si hb]
theorem WA {w:World} {ok:Nat->Prop} {l:List UInt8} {bs:List Value} (h:Bs w ok (l.map fun b=>[IV.int .u8 b.toNat]) bs):bs=byteCells l:=by
 obtain ⟨h1,_,h3⟩:=h
 apply List.ext_getElem?
 intro i
 by_cases hi:i < l.length
 ·obtain ⟨v,g1,g2⟩:=h3 i [.int .u8 l[i].toNat] (.int .u8 l[i].toNat) (by simp [hi]) rfl
  cases g2
  simp [byteCells,g1,hi]
 ·simp at h1
  rw [List.getElem?_eq_none (by omega),List.getElem?_eq_none (by simp [byteCells];omega)]
def IE (T e:TypeId) (R:Type) (ps:List PV) (h:List Ob) (k:PV->List Ob->Option R):Option R:=
 match ps with
 | [.ptr o j]=>match z8 h (qh T e) (.ptr o j) with | some p=>(xn (nth p.1 1)).bind fun v=>k (.imm v) (kill h p.2) | none=>none
 | _=>none
 noncomputable def strJ (T e:TypeId):Inl where
  run:=IE T e
  nat:=fun R S ps h k f=>by
   unfold IE
   split
   ·split
    ·rw [Option.bind_assoc]
    ·rfl
   ·rfl
  stay:=fun ps h p h' hr=>by
   unfold IE at hr
   split at hr
   ·split at hr
    ·rename_i o j _ q hq
     obtain ⟨v,_,hv⟩:=Option.bind_eq_some_iff.1 hr
     cases hv
     obtain ⟨hrw,_⟩:=xF hq
     refine ⟨by rw [dQ];exact Nat.le_refl _,fun o' ho hno=> ?_⟩
     rw [j8,if_neg]
     intro hm
     rw [hrw o' hm] at hno;cases hno
    ·cases hr
   ·cases hr
theorem Xw (walk: ∀(w:World) (b:Nat) (p u:Value) (l:List UInt8),BdAt w T e b p u l.length (byteCells l)->Calls P g #[.pointer (some ⟨b,0,none⟩)] w fun E w'=>E= .returned (.string ⟨l.toArray⟩)/\
   w'.os=w.os/\w'.tape=w.tape/\w'.output=w.output/\w.heap.size<=w'.heap.size/\Sizes w w'/\ ∀k,k < w.heap.size->u.ownBlock≠some k->w'.heap[k]? =w.heap[k]?):
  ah P g ⟨.inl (strJ T e),false,[],0,fun _=>none⟩:=by
 intro w0 ok0 w ok mu h ps args p h' i hfresh hlen hrel hr
 have hr':IE T e (PV×List Ob) ps h (fun p h=>some (p,h))=some (p,h'):=hr
 unfold IE at hr'
 split at hr'
 ·rename_i o j
  split at hr'
  ·rename_i q hq
   obtain ⟨vs,os⟩:=q
   obtain ⟨x,hx,hx2⟩:=Option.bind_eq_some_iff.1 hr'
   cases hx2
   obtain ⟨v,rfl⟩: ∃v,args=[v]:=by
    match args,hlen with
    | [v],_=>exact ⟨v,rfl⟩
   have rx:=hrel 0 (.ptr o j) v rfl rfl
   obtain ⟨pl,pA,hm,tv,hvl,hrw,hqos,hA⟩:=rZ i hq rx
   obtain ⟨b,p,u,es,bs,rfl,hl,hb,hv1,hbs,hbuf⟩:=tv.bd
   rw [hv1] at hx
   unfold xn at hx
   obtain ⟨l,hl',rfl⟩:=Option.map_eq_some_iff.1 hx
   have hes:=F6 hl'
   rw [hes] at hbs hb
   have hbb:=WA hbs
   rw [hbb] at hb
   simp only [List.length_map] at hb
   have hlive: ∀k∈os,(getOb h k).live=true/\(getOb h k).fz=false:=fun k hk=>Ll (hrw k hk)
   refine (walk w b p u l hb).mono fun E w' hE=> ?_
   obtain ⟨rfl,h1,h2,h3,h4,h5,h6⟩:=hE
   obtain ⟨i2,l2⟩:=i.lentout (os:=os) (ok':=ok) hlive h1 h2 h3 h4 h5 (fun k hk hno=>h6 k hk fun e=>by
    obtain ⟨q,hq1,_,plq,base,g1,g2⟩:=hA k ((hbuf k).1 e)
    exact hno q hq1 plq base g1 g2) (fun _ h=>h) (fun _ h=> .inl h)
   exact ⟨_,rfl,ok,mu,l2,i2,.imm (.str _),fun q hq=>hfresh q (by rwa [dQ] at hq)⟩
  ·cases hr'
 ·cases hr'
end
end Go.AM
namespace Go.AM
open Go.RowKit
def AY (sz bytes:Nat) (R:Type) (ps:List PV) (h:List Ob) (k:PV->List Ob->Option R):Option R:=
 match ps with
 | [.nils,.imm x]=>(Yx sz bytes x).bind fun _=>k (.buf h.length 0) (h++[.arr .rw sz (.lst [])])
 | _=>none
 noncomputable def growJ (sz bytes:Nat):Inl where
  run:=AY sz bytes
  nat:=fun R S ps h k f=>by
   unfold AY
   split
   ·rw [Option.bind_assoc]
   ·rfl
  stay:=fun ps h p h' hr=>by
   unfold AY at hr
   split at hr
   ·obtain ⟨_,_,h2⟩:=Option.bind_eq_some_iff.1 hr
    cases h2;exact Stay.append _ _
   ·cases hr
theorem W5 {P:Program} {g:FuncId} {sz bytes:Nat} (walk: ∀(w:World) (A:Option Addr) (n:Nat),n*(bytes+1)<=2 ^ 40->Calls P g #[.slice A 0 0,.int .i64 (n:Int)] w fun E w'=> ∃v,E= .returned v/\
   ((v= .slice A 0 0/\w'=w)\/ ∃(cells:Array Value) (T:TypeId) (cap:Nat),v= .slice (some ⟨w.heap.size,0,none⟩) 0 cap/\cap*sz<=cells.size/\w'=w.drew.alloc (.cells cells T))):
  ah P g ⟨.inl (growJ sz bytes),false,[],0,fun _=>none⟩:=by
 intro w0 ok0 w ok mu h ps args p h' i hfresh hlen hrel hr
 have hr':AY sz bytes (PV×List Ob) ps h (fun p h=>some (p,h))=some (p,h'):=hr
 unfold AY at hr'
 split at hr'
 ·rename_i x
  obtain ⟨_,hx,h2⟩:=Option.bind_eq_some_iff.1 hr'
  cases h2
  unfold Yx at hx
  split at hx
  rotate_left
  ·cases hx
  rename_i n
  split at hx
  ·rename_i hc
   obtain ⟨v0,v1,rfl⟩: ∃v0 v1,args=[v0,v1]:=by
    match args,hlen with
    | [v0,v1],_=>exact ⟨v0,v1,rfl⟩
   have r0:=hrel 0 _ v0 rfl rfl
   have r1:=hrel 1 _ v1 rfl rfl
   cases r0 with
   | nils A=>
     cases r1 with
     | imm r1=>
       cases r1
       have hnn:((n.toNat:Nat):Int)=n:=by omega
       have hw:=walk w A n.toNat hc.2.1
       rw [hnn] at hw
       refine hw.mono fun E w' hE=> ?_
       obtain ⟨v,rfl,hv⟩:=hE
       rcases hv with ⟨rfl,rfl⟩ | ⟨cells,T,cap,rfl,hcap,rfl⟩
       ·obtain ⟨g1,g2,g3⟩:=i.add hfresh (ob:= .arr .rw sz (.lst [])) (pl:=⟨none,0,sz⟩) (.inl ⟨hc.2.2,rfl,[],rfl,rfl,by simp,fun _=>rfl,fun b base hb=>by cases hb⟩) (fun b base hb=>by cases hb)
        exact ⟨_,rfl,ok,_,g3,g1,.buf _ 0 A 0 ⟨none,0,sz⟩ (by simp) rfl ⟨Nat.le_refl _,.inl ⟨rfl,rfl⟩⟩ fun b base hb=>(by cases hb),g2⟩
       ·have hsizes:Sizes w (w.drew.alloc (.cells cells T)):=fun b c T' z hb=>⟨c,z,(Below.heap_alloc w.drew _ b (Array.getElem?_eq_some_iff.1 hb).1).trans hb,rfl⟩
        have hsz:(w.drew.alloc (.cells cells T)).heap.size=w.heap.size+1:=by show (w.heap.push _).size=_;simp
        obtain ⟨i2,l2⟩:=i.lentout (os:=[]) (ok':=ok) (w':=w.drew.alloc (.cells cells T)) (by simp) rfl rfl rfl (by omega) hsizes (fun b hb _=>Below.heap_alloc w.drew _ b hb) (fun _ h=>h) fun b hb=> .inl hb
        simp only [kill] at i2
        have hnew:(w.drew.alloc (.cells cells T)).heap[w.heap.size]? =some (.cells cells T (0,0)):=ea w.drew _
        obtain ⟨g1,g2,g3⟩:=i2.add hfresh (ob:= .arr .rw sz (.lst [])) (pl:=⟨some (w.heap.size,0),0,sz⟩) (.inl ⟨hc.2.2,rfl,[],rfl,rfl,by simp,fun h=>(by cases h),fun b base hb=>by
          cases hb;exact ⟨cells,T,hnew,by simp,fun i j e x he=>by simp at he⟩⟩) (fun b base hb=>by
          cases hb
          exact ⟨.inl i.below.size,by omega,fun hb=>by have:=i.okw _ hb;omega,fun o pl' base' k1 k2=>by have:=(i.own o pl' _ base' k1 k2).2.1;omega⟩)
        refine ⟨_,rfl,ok,_,l2.trans g3,g1,.buf _ 0 _ cap ⟨some (w.heap.size,0),0,sz⟩ (by simp) rfl ⟨Nat.zero_le _,.inr ⟨w.heap.size,0,rfl,by simp⟩⟩ fun b base hb=> ?_,g2⟩
        cases hb
        exact ⟨cells,T,(0,0),hnew,by simpa using hcap⟩
  ·cases hx
 ·cases hr'
end Go.AM
namespace Go.AM
open Go.RowKit
theorem qa {w:World} {ok:Nat->Prop} {y:IV} {u:Value} (h:RV w ok y u):Nk w ok [y] [u]:=⟨rfl,fun i c v h1 h2=>by
 cases i with
 | zero=>cases h1;cases h2;exact h
 | succ i=>simp at h1⟩
section
variable {P:Program} {Γ:FuncId->Option FSig} {C:IV->List Nat->List (List IV)->Option (List IV)} {A:Ann}
theorem L5 (hΓ:ak P Γ) (hC:COK P C) (hm:P.follows .mixedOrders=true) {g:FuncId} {f:Func} (hg:P.funcs[g]? =some f) (hb:(match f.body with | some c=>rq Γ A c | none=>false)=true)
  {pf:IV->Option (List IV)} {hs:IV->List Ob} (hrun: ∀y,p4 P Γ C A f (PV×List Ob) [.agg [.imm y]] [] (fun p h=>some (p,h))=(pf y).bind fun r=>some (.imm (nth r 0),hs y)) (y:IV) (u:Value) (W:World) (OK:Nat->Prop) (hy:RV W OK y u):
  PureAt P g [ifV true u] [1] (fun l=>match l with | []=>pf y | _=>none) W OK:=by
 intro w ok ls args r hk hok hargs hr
 have hls:ls=[]/\pf y=some r:=by
  revert hr
  cases ls with
  | nil=>exact fun h=>⟨rfl,h⟩
  | cons c l=>intro h;cases h
 obtain ⟨rfl,hr⟩:=hls
 have hargs0:args=[]:=List.length_eq_zero_iff.1 hargs.1.symm
 subst hargs0
 have hrel: ∀(i:Nat) (p:PV) (v:Value),[PV.agg [.imm y]][i]? =some p->[Value.agg #[u]][i]? =some v->RP w ok (fun _=>none) p v:=fun i p v h1 h2=>by
  cases i with
  | zero=>
    cases h1;cases h2
    refine .agg _ _ rfl fun j p v h3 h4=> ?_
    cases j with
    | zero=>cases h3;simp at h4;subst h4;exact .imm (hy.keeps hk)
    | succ j=>simp at h3
  | succ i=>simp at h1
 have hJ:p4 P Γ C A f (PV×List Ob) [.agg [.imm y]] [] (fun p h=>some (p,h))=some (.imm (nth r 0),hs y):=by
  have hr':pf y=some r:=hr
  rw [hrun,hr'];rfl
 have hsig:ah P g ⟨.inl (kI P Γ C A f),false,[],0,fun _=>none⟩:=aE hΓ hC hm hg hb
 refine (hsig w ⟨ok,fun _=>False⟩ w ok (fun _=>none) [] [.agg [.imm y]] [.agg #[u]] _ _ (NV hok _) (fun _ _=>rfl) rfl hrel hJ).mono fun e w' he=> ?_
 obtain ⟨v,rfl,ok',mu',l,i,r2,_⟩:=he
 refine ⟨v,rfl,i.below.below (fun _ h=>h),?_⟩
 cases r2 with
 | imm r2=>
   refine .inl ⟨rfl,r2.more fun b hb=> ?_⟩
   rcases i.okb b hb with h | h | h
   ·exact .inl h
   ·exact .inr ⟨h,i.okw b hb⟩
   ·exact h.elim
end
theorem Sx (name:String) (Part:IV->Option (List IV)) (C:IV->List Nat->List (List IV)->Option (List IV)) (y:IV) {R:Type} (f:IV->Option R):((C (IL name y) [1] []).bind fun r=>(Part (nth r 0)).bind fun r2=>f (nth r2 0))=(P6 name Part C y).bind fun r=>f (nth r 0):=by
 unfold P6
 cases C (IL name y) [1] [] with
 | none=>rfl
 | some r=>simp only [Option.bind_some];cases Part (nth r 0)<;>rfl
end Go.AM
