/- Walks by hand: maps, iterators. -/
import Derived.Test.YtgoenohknokcmaaGreatAe
import Derived.Test.YtgoenohknokcmaaGreatProg
open Go.Proofs.Tryz renaming prog->ad,f153->bR,f202->b0
open Go.Fence renaming wide->ao
open Nat renaming le_refl->aB,reduceAdd->bC,reduceSub->bM,zero_le->b1
open Array renaming replicate_succ->a1,replicate_zero->a2
open List renaming append_toArray->a5,size_toArray->a6,push_toArray->a7,length_cons->a8,cons_append->bb,length_nil->bd,nil_append->bs,append_nil->bO
open Go.Lit renaming int->bA
set_option linter.unusedVariables false
set_option linter.unusedSimpArgs false
set_option maxRecDepth 100000
namespace Go.AM
open Go.Proofs Go.RowKit Go.Shelf
 attribute [local go_sem] Oper.semAt_some
@[local go_sem] theorem acs {P:Program} {w:World} {a:Addr} {m:Mode} (k:FloatKind) (x:Nat):(store a (.float k x) m).run P w=stored P w a (.float k x) m:=run_store P w a _ m rfl
set_option maxHeartbeats 2000000 in
theorem DT (nF:Nat) (w:World) (A:Option Addr) (b off cap:Nat) (ps:List (Int×Int)) (C:Nat->ByteArray) (q:Nat->Nat) (I:0 < ps.length->A=some ⟨b,off,none⟩) (v:0 < ps.length->b < w.heap.size) (F:ps.length<=2 ^ 40)
  (y: ∀p∈ps,(bA .i64 p.1).wf=true/\(bA .i64 p.2).wf=true)
  (hc: ∀(j:Nat) (p:Int×Int),ps[j]? =some p->w.cell? ⟨b,off+j*4,none⟩=some (.int .i64 p.1)/\w.cell? ⟨b,off+j*4+1,none⟩=some (.int .i64 p.2)/\w.cell? ⟨b,off+j*4+2,none⟩=some (.string (C j))/\w.cell? ⟨b,off+j*4+3,none⟩=some (.float .f64 (q j))):
  CallsIn ao nF ad 80 #[.slice A ps.length cap] w λe D=>e= .returned (.map (some w.heap.size))/\iy D ad 3 3 w.heap.size (dE ps).length (ph ps)/\Below w.heap.size w D:=by
 have J: ∀f,ao.fn f:= λ_=>trivial
 have E:ao.depth.isSome=false:=rfl
 have hf:ad.funcs[80]? =some Tryz.f80:=by kernel_rfl
 have hn:Tryz.f80.ntmps=31:=by kernel_rfl
 have L:= @run_makeMap ad
 have G:ad.underlying 37=some (.slice 72):=by kernel_rfl
 have h:ad.underlying 3=some (.int .i64):=by kernel_rfl
 have a:ad.underlying 161=some (.map 3 3):=by kernel_rfl
 have z: ∀w,(zeroValue 3).run ad w= .ok (.int .i64 0) w:= λw=>by kernel_rfl
 refine callsIn_of_wp hf rfl trivial ?_ rfl
 simp only [hn,a6,a8,bd,bC,bM,a1,a2,a7,a5,bs,bb]
 gi_wp2
 gi_loopw [11] (λi wr=> ∃k:Nat,k<=ps.length/\i= .int .i64 k/\iy wr ad 3 3 w.heap.size (dE (ps.take k)).length (ph (ps.take k))/\Below w.heap.size w wr)
  (λi _=>ps.length - (Yg i).toNat)
 case atStart=>exact ⟨0,b1 _,rfl,iy.made w _ _ _,(Below.refl _ w).alloc (aB _) _⟩
 case round=>
  obtain ⟨k,hk,rfl,r,l⟩:=hrel
  by_cases u:k < ps.length
  ·obtain ⟨p,hp⟩: ∃p,ps[k]? =some p:=⟨ps[k],List.getElem?_eq_getElem u⟩
   obtain ⟨H,c1,c2,c3⟩:=hc k p hp
   have d:=v (by omega)
   obtain rfl:=I (by omega)
   have M:=(l.cell (p:=⟨b,off+k*4,none⟩) d).trans H
   have N:=(l.cell (p:=⟨b,off+k*4+1,none⟩) d).trans c1
   have O:=(l.cell (p:=⟨b,off+k*4+2,none⟩) d).trans c2
   have P:=(l.cell (p:=⟨b,off+k*4+3,none⟩) d).trans c3
   obtain ⟨o,x⟩:=y p (List.mem_of_getElem? hp)
   have m:=r.alloc (.cells #[.int .i64 p.1,.int .i64 p.2,.string (C k),.float .f64 (q k)] 72)
   obtain ⟨c,hl,K⟩:=m.look a h h (z _) o
   have n:=l.alloc l.size (.cells #[.int .i64 p.1,.int .i64 p.2,.string (C k),.float .f64 (q k)] 72)
   cases g:(ph (ps.take k) p.1).isSome with
   | true=>
     rw [g] at hl
     gi_wp2
     refine ⟨⟨k+1,by omega,by simp,?_,n⟩,by simp [Yg];omega⟩
     rw [bn hp];exact m.same g
   | false=>
     rw [g] at hl
     obtain ⟨w2,hs,s,t⟩:=m.stored a h h g (by simp [maxLen];omega) o x
     gi_wp2
     refine ⟨⟨k+1,by omega,by simp,?_,TI n t (aB _) (aB _)⟩,by simp [Yg];omega⟩
     rw [bn hp];exact s
  ·gi_wp2
   obtain rfl:k=ps.length:=by omega
   rw [List.take_length] at r
   refine bodyPost_ret (results_tmp rfl _ _ _) rfl ?_
   exact ⟨rfl,r,l⟩
theorem Tm (nF:Nat) (w:World) (m:Option Nat) (x:Int):
  CallsIn ao nF ad 147 #[.map m,.int .i64 x] w λe b=>e= .returned (.func (.func 202) #[] #[.pointer (some ⟨w.heap.size,0,none⟩),.pointer (some ⟨w.heap.size+1,0,none⟩)])/\
   b=(w.alloc (.cells #[.map m] 161)).alloc (.cells #[.int .i64 x] 3):=by
 have c: ∀f,ao.fn f:= λ_=>trivial
 have a:ao.depth.isSome=false:=rfl
 have hf:ad.funcs[147]? =some Tryz.f147:=by kernel_rfl
 have hn:Tryz.f147.ntmps=6:=by kernel_rfl
 refine callsIn_of_wp hf rfl trivial ?_ rfl
 simp only [hn,a6,a8,bd,bC,bM,a1,a2,a7,a5,bs,bb]
 gi_wp2
 refine bodyPost_ret (results_tmp rfl _ _ _) rfl ?_
 exact ⟨rfl,rfl⟩
set_option maxHeartbeats 2000000 in
theorem V9 (nF l b c j n N:Nat) (f:Int->Option Int) (q:Int) (M:(bA .i64 q).wf=true) (H: ∀k v,f k=some v->(bA .i64 v).wf=true) (J C:List Int->World->Prop)
  (V: ∀s A B,J s A->(∃v,B=A.setCell ⟨c,0,none⟩ v)->J s B) (X: ∀s A B,C s A->(∃v,B=A.setCell ⟨c,0,none⟩ v)->C s B) (hb:b < n) (hc:c < n) (hm:j < n) (G:b≠c) (K:j≠c)
  (Z: ∀pre x D,J pre D->YieldAt ao (nF - 1) ad l #[.int .i64 x] D λe p=>(e= .returned (.bool true)/\J (pre++[x]) p/\Below n D p)\/(e= .returned (.bool false)/\C (pre++[x]) p))
  (W:World) (Q:Boxed W b 161 (.map (some j))) (b2:Boxed W c 3 (.int .i64 q)) (T:iy W ad 3 3 j N f) (hN:N<=2 ^ 40) (h0:J [] W):
  CallsIn ao nF ad 202 #[.func (.yield l) #[] #[],.pointer (some ⟨b,0,none⟩),.pointer (some ⟨c,0,none⟩)] W λe p=>(∃v,e= .returned v)/\
   ((∃ys,ys=upto f N q/\J ys p)\/(∃pre,pre <+:upto f N q/\C pre p)):=by
 have ab: ∀f,ao.fn f:= λ_=>trivial
 have U:ao.depth.isSome=false:=rfl
 have hf:ad.funcs[202]? =some b0:=by kernel_rfl
 have hn:b0.ntmps=26:=by kernel_rfl
 have z:ad.underlying 3=some (.int .i64):=by kernel_rfl
 have g:ad.underlying 161=some (.map 3 3):=by kernel_rfl
 have O: ∀w,(zeroValue 3).run ad w= .ok (.int .i64 0) w:= λw=>by kernel_rfl
 have hlen:=T.len g 3
 have h1:=Q.cell
 have h2:=b2.cell
 refine callsIn_of_wp hf rfl trivial ?_ rfl
 simp only [hn,a6,a8,bd,bC,bM,a1,a2,a7,a5,bs,bb]
 gi_wp2
 gi_loopw [8] (λi wr=> ∃(k:Nat) (pre:List Int) (x:Int),k<=N/\i= .int .i64 k/\pre++upto f (N - k) x=upto f N q/\(bA .i64 x).wf=true/\J pre wr/\Boxed wr b 161 (.map (some j))/\Boxed wr c 3 (.int .i64 x)/\iy wr ad 3 3 j N f)
  (λi _=>N - (Yg i).toNat)
 case atStart=>exact ⟨0,[],q,b1 _,rfl,by simp,M,h0,Q,b2,T⟩
 case round=>
  obtain ⟨k,pre,x,hk,rfl,hu,hx,m,R,S,t⟩:=hrel
  have g1:=R.cell
  have g2:=S.cell
  by_cases ac:k < N
  ·obtain ⟨d,hl,I⟩:=t.look g z z (O _) hx
   have u:N - k=(N - (k+1))+1:=by omega
   cases a:f x with
   | none=>
     rw [a] at hl
     rw [u] at hu
     simp only [upto,a,bO] at hu
     gi_wp2
     first | (refine ⟨λf h=>(by cases h),?_⟩;gi_wp2) | skip
     refine bodyPost_ret (results_none rfl _ _ _) rfl ?_
     exact ⟨⟨_,rfl⟩,.inl ⟨pre,hu,m⟩⟩
   | some y=>
     rw [a] at hl
     obtain rfl:=I y a
     rw [u] at hu
     simp only [upto,a] at hu
     obtain ⟨fn,tmps,assign,body,hy,Y⟩:=Z pre d wr m
     have L:=H x d a
     gi_wp2
     refine Y.mono ?_
     rintro e E (⟨rfl,F,o⟩ | ⟨rfl,r⟩)
     ·have q1:Boxed E b 161 (.map (some j)):=(o.block b hb).trans R
      have P:Boxed E c 3 (.int .i64 x):=(o.block c hc).trans S
      have q3:iy E ad 3 3 j N f:=t.below hm o
      have i1:=P.cell
      have i2:=P.frozen
      gi_wp2
      refine ⟨⟨k+1,pre++[d],d,by omega,by simp,by simp [hu],L,V _ _ _ F ⟨_,rfl⟩,(Below.heap_setCell _ _ _ _ G).trans q1,P.set _,q3.of_block (Below.heap_setCell _ _ _ _ K)⟩,by simp [Yg];omega⟩
     ·gi_wp2
      refine bodyPost_ret (results_none rfl _ _ _) rfl ?_
      exact ⟨⟨_,rfl⟩,.inr ⟨pre++[d],⟨upto f (N - (k+1)) d,by simp [hu]⟩,r⟩⟩
  ·gi_wp2
   obtain rfl:k=N:=by omega
   simp only [Nat.sub_self,upto,bO] at hu
   go_end0
   exact ⟨⟨_,rfl⟩,.inl ⟨pre,hu,m⟩⟩
theorem SB {ps:List (Int×Int)} (a: ∀p∈ps,(bA .i64 p.1).wf=true/\(bA .i64 p.2).wf=true) (k v:Int) (h:ph ps k=some v):(bA .i64 v).wf=true:=by
 unfold ph at h
 obtain ⟨p,h1,rfl⟩:=Option.map_eq_some_iff.1 h
 exact (a p (List.mem_of_find?_eq_some h1)).2
set_option maxHeartbeats 2000000 in
theorem abJ (nF:Nat) (h1:1<=nF) (w:World) (A:Option Addr) (b off cap:Nat) (ps:List (Int×Int)) (ss:Nat->ByteArray) (fs:Nat->Nat) (hA:0 < ps.length->A=some ⟨b,off,none⟩) (I:0 < ps.length->b < w.heap.size) (u:ps.length<=2 ^ 40)
  (M: ∀p∈ps,(bA .i64 p.1).wf=true/\(bA .i64 p.2).wf=true)
  (hc: ∀(j:Nat) (p:Int×Int),ps[j]? =some p->w.cell? ⟨b,off+j*4,none⟩=some (.int .i64 p.1)/\w.cell? ⟨b,off+j*4+1,none⟩=some (.int .i64 p.2)/\w.cell? ⟨b,off+j*4+2,none⟩=some (.string (ss j))/\w.cell? ⟨b,off+j*4+3,none⟩=some (.float .f64 (fs j)))
  (x y:Int) (hy:(bA .i64 y).wf=true):
  CallsIn ao nF ad 153 #[.slice A ps.length cap,.int .i64 x,.int .i64 y] w λe W'=>e= .returned (.bool ((upto (ph ps) (dE ps).length y).contains x))/\Below w.heap.size w W':=by
 have a9: ∀f,ao.fn f:= λ_=>trivial
 have am:ao.depth.isSome=false:=rfl
 have hf:ad.funcs[153]? =some bR:=by kernel_rfl
 have hn:bR.ntmps=16:=by kernel_rfl
 have bB:ad.underlying 3=some (.int .i64):=by kernel_rfl
 refine callsIn_of_wp_marks hf rfl trivial ?_ rfl
 simp only [hn,a6,a8,bd,bC,bM,a1,a2,a7,a5,bs,bb]
 obtain ⟨w1,m⟩: ∃w1,w1=(w.alloc (.cells #[.int .i64 x] 3)).alloc (.cells #[.bool false] 4):=⟨_,rfl⟩
 have g:Below w.heap.size w w1:=by rw [m];exact (((Below.refl _ w).alloc (aB _) _).alloc (by simp) _)
 have be:w1.heap.size=w.heap.size+2:=by rw [m];simp
 have bx:Boxed w1 w.heap.size 3 (.int .i64 x):=by rw [m];exact (Boxed.new w 3 _).alloc _
 have br:Boxed w1 (w.heap.size+1) 4 (.bool false):=by rw [m];have:=Boxed.new (w.alloc (.cells #[.int .i64 x] 3)) 4 (.bool false);simpa using this
 have hp:= λn=>DT n w1 A b off cap ps ss fs hA (λh=>by have:=I h;omega) u M (λj p hj=>by
  have hb:=I (by have:=(List.getElem?_eq_some_iff.1 hj).1;omega)
  obtain ⟨c0,c1,c2,c3⟩:=hc j p hj
  exact ⟨(g.cell (p:=⟨b,off+j*4,none⟩) hb).trans c0,(g.cell (p:=⟨b,off+j*4+1,none⟩) hb).trans c1,(g.cell (p:=⟨b,off+j*4+2,none⟩) hb).trans c2,(g.cell (p:=⟨b,off+j*4+3,none⟩) hb).trans c3⟩)
 gi_wp2_with (first | (gi_at_call 80;rw [<-m];refine (hp _).mono ?_;rintro e w2 ⟨rfl,G,t⟩) | (gi_at_call 147;refine (Tm _ _ _ _).mono ?_;rintro e w3 ⟨rfl,bm⟩))
 have bf:=t.size
 obtain ⟨d,a⟩: ∃d,d=(w2.alloc (.cells #[.map (some (w.heap.size+1+1))] 161)).alloc (.cells #[.int .i64 y] 3):=⟨_,rfl⟩
 rw [<-a]
 have bi:d.heap.size=w2.heap.size+2:=by rw [a];simp
 have Q:Boxed d w2.heap.size 161 (.map (some (w.heap.size+1+1))):=by rw [a];exact (Boxed.new w2 161 _).alloc _
 have P:Boxed d (w2.heap.size+1) 3 (.int .i64 y):=by rw [a];have:=Boxed.new (w2.alloc (.cells #[.map (some (w.heap.size+1+1))] 161)) 3 (.int .i64 y);simpa using this
 have e2:w1.heap.size=w.heap.size+1+1:=by omega
 rw [e2] at G
 have Z:iy d ad 3 3 (w.heap.size+1+1) (dE ps).length (ph ps):=by rw [a];exact (G.alloc _).alloc _
 have al:=G.lt
 have C:Below w2.heap.size w2 d:=by rw [a];exact ((Below.refl _ w2).alloc (aB _) _).alloc (by simp) _
 have U:Below w.heap.size w d:=(g.trans (t.mono (by omega))).trans (C.mono (by omega))
 have T:Boxed d w.heap.size 3 (.int .i64 x):=(C.block _ (by omega)).trans ((t.block _ (by omega)).trans bx)
 have R:Boxed d (w.heap.size+1) 4 (.bool false):=(C.block _ (by omega)).trans ((t.block _ (by omega)).trans br)
 refine Fw rfl h1 (gf:=202) (lb:= #[.pointer (some ⟨w2.heap.size,0,none⟩),.pointer (some ⟨w2.heap.size+1,0,none⟩)]) rfl trivial (enters_of (f:=b0) (by kernel_rfl) (by kernel_rfl) (by kernel_rfl))
  (encs:= λx:Int=> #[.int .i64 x]) (Kp:=Below d.heap.size) (Chg:= λA B=> ∃v,B=A.setCell ⟨w2.heap.size+1,0,none⟩ v) (S:= λxs=>xs=upto (ph ps) (dE ps).length y) (Sp:= λpre=>pre <+:upto (ph ps) (dE ps).length y)
  (λl J Jx W hW hJ V hY h0=>V9 (nF - 1) l w2.heap.size (w2.heap.size+1) (w.heap.size+1+1) d.heap.size (dE ps).length (ph ps) y hy (SB M) J Jx hJ V (by omega) (by omega) (by omega) (by omega) (by omega) (λpre x W1=>hY pre x W1 trivial) W
    ((hW.block _ (by omega)).trans Q) ((hW.block _ (by omega)).trans P) (Z.below (by omega) hW) (Nat.le_trans (FN ps) u) h0)
  ?c1 belowK_t (belowK_b (aB _)) (λ_=>rfl)
  (λpre W=>((Boxed W w.heap.size 3 (.int .i64 x)/\Boxed W (w.heap.size+1) 4 (.bool false))/\x∉pre)/\Below w.heap.size w W)
  (λc pre W=>((c= .ret/\Boxed W (w.heap.size+1) 4 (.bool true))/\x∈pre)/\Below w.heap.size w W)
  ?c2 ?c3 ?c4 ?c5 ⟨⟨⟨T,R⟩,by simp⟩,U⟩
  (λz=>{ tmps:= #[.slice A ps.length cap,.int .i64 x,.int .i64 y,undef,.pointer (some ⟨w.heap.size,0,none⟩),undef,.pointer (some ⟨w.heap.size+1,0,none⟩),.int .i64 z,.slice A ps.length cap,.map (some (w.heap.size+1+1)),.int .i64 y,
     .func (.func 202) #[] #[.pointer (some ⟨w2.heap.size,0,none⟩),.pointer (some ⟨w2.heap.size+1,0,none⟩)],.int .i64 z,undef,undef,undef],defers:=[] }) ?assign ?body ?done ?stop
 case c1=>rintro A B k o ⟨v,rfl⟩ hk ho hn;rw [Below.heap_setCell _ _ _ _ (by simp;omega)];exact ho
 case c2=>
  refine OwnFrom.two <| OwnFrom.and (λs X Y row hs O hr=>⟨⟨?_,?_⟩,hs.2⟩) (ownFrom_below (aB _) (by omega))
  ·exact hs.1.1.kept O (λe=>by have:=(hr _ e.symm).1;omega)
  ·exact hs.1.2.kept O (λe=>by have:=(hr _ e.symm).1;omega)
 case c3=>
  intro c
  refine OwnFrom.two <| OwnFrom.and (λs X Y row hs O hr=>⟨⟨hs.1.1,?_⟩,hs.2⟩) (ownFrom_below (aB _) (by omega))
  exact hs.1.2.kept O (λe=>by have:=(hr _ e.symm).1;omega)
 case c4=>
  rintro s X Y ⟨v,rfl⟩ ⟨⟨⟨i1,i2⟩,i3⟩,q⟩
  exact ⟨⟨⟨(Below.heap_setCell _ _ _ _ (by simp;omega)).trans i1,(Below.heap_setCell _ _ _ _ (by simp;omega)).trans i2⟩,i3⟩,q.setCell (by simp;omega) _⟩
 case c5=>
  rintro c s X Y ⟨v,rfl⟩ ⟨⟨⟨i1,i2⟩,i3⟩,q⟩
  exact ⟨⟨⟨i1,(Below.heap_setCell _ _ _ _ (by simp;omega)).trans i2⟩,i3⟩,q.setCell (by simp;omega) _⟩
 case assign=>
  intro l z W K E
  gi_wp2
  exact E
 case body=>
  rintro l pre z W ⟨⟨⟨i1,i2⟩,i3⟩,q⟩
  have j1:=i1.cell
  have j2:=i2.cell
  have j3:=i2.frozen
  by_cases N:z=x
  ·gi_wp2
   exact ⟨(KeepsOthers.setCell W ⟨w.heap.size+1,0,none⟩ (.bool true)).from _,⟨⟨rfl,i2.set _⟩,by simp [N]⟩,q.setCell (p:=⟨w.heap.size+1,0,none⟩) (by simp) _⟩
  ·gi_wp2
   exact ⟨KeepsFrom.refl _ _,Below.refl _ _,⟨⟨i1,i2⟩,by simp only [List.mem_append,List.mem_singleton,not_or];exact ⟨i3,λe=>N e.symm⟩⟩,q⟩
 case done=>
  rintro D xs W hD rfl ⟨⟨⟨i1,i2⟩,i3⟩,q⟩ E
  have j2:=i2.cell
  have j3:=i2.frozen
  gi_wp2
  have F:=(KeepsOthers.setCell W ⟨w.heap.size+1,0,none⟩ (.bool false)).same D _ E rfl
  refine ⟨by simp,.inl ⟨_,_,rfl,run_takeDeferred F,?_⟩⟩
  have H:=cell_kept (i2.set (.bool false)).cell (grownBy_putObj' _ D (.deferred none)) (λr e=>by cases e;exact ⟨_,F,rfl⟩)
  have i:((upto (ph ps) (dE ps).length y).contains x)=false:=by simpa using i3
  refine ⟨.bool false,?_,by rw [i],(q.setCell (p:=⟨w.heap.size+1,0,none⟩) (by simp) _).trans (belowK_b (w:=w) (aB _) _ D _ _ (by omega) F rfl rfl)⟩
  have hr:bR.results= #[.cell 6 4]:=by kernel_rfl
  simp [results,hr,go_sem,H]
 case stop=>
  rintro D c pre W hD L ⟨⟨⟨rfl,i2⟩,i3⟩,q⟩ E
  have j2:=i2.cell
  gi_wp2
  refine ⟨by simp,.inl ⟨_,_,rfl,run_takeDeferred E,?_⟩⟩
  have H:=cell_kept i2.cell (grownBy_putObj' _ D (.deferred none)) (λr e=>by cases e;exact ⟨_,E,rfl⟩)
  have i:((upto (ph ps) (dE ps).length y).contains x)=true:=by simpa using L.subset i3
  refine ⟨.bool true,?_,by rw [i],q.trans (belowK_b (w:=w) (aB _) W D _ _ (by omega) E rfl rfl)⟩
  have hr:bR.results= #[.cell 6 4]:=by kernel_rfl
  simp [results,hr,go_sem,H]
end Go.AM
