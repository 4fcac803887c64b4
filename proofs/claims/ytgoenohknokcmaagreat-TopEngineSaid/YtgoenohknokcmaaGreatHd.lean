/- Walks by hand: maps, iterators. -/
import Derived.Test.YtgoenohknokcmaaGreatAe
import Derived.Test.YtgoenohknokcmaaGreatProg
set_option linter.unusedVariables false
set_option linter.unusedSimpArgs false
set_option maxRecDepth 100000
namespace Go.AM
open Go.Proofs Go.RowKit Go.Shelf
 attribute [local go_sem] Oper.semAt_some
@[local go_sem] theorem J1 {P:Program} {w:World} {a:Addr} {m:Mode} (k:FloatKind) (x:Nat):(store a (.float k x) m).run P w=stored P w a (.float k x) m:=run_store P w a _ m rfl
set_option maxHeartbeats 2000000 in
theorem zL (nF:Nat) (w:World) (A:Option Addr) (b off cap:Nat) (ps:List (Int×Int)) (ss:Nat->ByteArray) (fs:Nat->Nat) (hA:0 < ps.length->A=some ⟨b,off,none⟩) (hlt:0 < ps.length->b < w.heap.size) (hmax:ps.length<=2 ^ 40)
  (hwf: ∀p∈ps,(Lit.int .i64 p.1).wf=true/\(Lit.int .i64 p.2).wf=true)
  (hc: ∀(j:Nat) (p:Int×Int),ps[j]? =some p->w.cell? ⟨b,off+j*4,none⟩=some (.int .i64 p.1)/\w.cell? ⟨b,off+j*4+1,none⟩=some (.int .i64 p.2)/\w.cell? ⟨b,off+j*4+2,none⟩=some (.string (ss j))/\w.cell? ⟨b,off+j*4+3,none⟩=some (.float .f64 (fs j))):
  CallsIn Fence.wide nF Tryz.prog 80 #[.slice A ps.length cap] w fun e W'=>e= .returned (.map (some w.heap.size))/\fo W' Tryz.prog 3 3 w.heap.size (cA ps).length (lD ps)/\Below w.heap.size w W':=by
 have hfn: ∀f,Fence.wide.fn f:=fun _=>trivial
 have hdep:Fence.wide.depth.isSome=false:=rfl
 have hf:Tryz.prog.funcs[80]? =some Tryz.f80:=by kernel_rfl
 have hn:Tryz.f80.ntmps=31:=by kernel_rfl
 have hmm:= @run_makeMap Tryz.prog
 have ty22:Tryz.prog.underlying 37=some (.slice 72):=by kernel_rfl
 have ty3:Tryz.prog.underlying 3=some (.int .i64):=by kernel_rfl
 have ty100:Tryz.prog.underlying 161=some (.map 3 3):=by kernel_rfl
 have hz3: ∀w,(zeroValue 3).run Tryz.prog w= .ok (.int .i64 0) w:=fun w=>by kernel_rfl
 refine callsIn_of_wp hf rfl trivial ?_ rfl
 simp only [hn,List.size_toArray,List.length_cons,List.length_nil,Nat.reduceAdd,Nat.reduceSub,Array.replicate_succ,Array.replicate_zero,List.push_toArray,List.append_toArray,List.nil_append,List.cons_append]
 gi_wp2
 gi_loopw [11] (fun i wr=> ∃k:Nat,k<=ps.length/\i= .int .i64 k/\fo wr Tryz.prog 3 3 w.heap.size (cA (ps.take k)).length (lD (ps.take k))/\Below w.heap.size w wr)
  (fun i _=>ps.length - (TH i).toNat)
 case atStart=>exact ⟨0,Nat.zero_le _,rfl,fo.made w _ _ _,(Below.refl _ w).alloc (Nat.le_refl _) _⟩
 case round=>
  obtain ⟨k,hk,rfl,hM,hB⟩:=hrel
  by_cases hkl:k < ps.length
  ·obtain ⟨p,hp⟩: ∃p,ps[k]? =some p:=⟨ps[k],List.getElem?_eq_getElem hkl⟩
   obtain ⟨c0,c1,c2,c3⟩:=hc k p hp
   have hbw:=hlt (by omega)
   obtain rfl:=hA (by omega)
   have d0:=(hB.cell (p:=⟨b,off+k*4,none⟩) hbw).trans c0
   have d1:=(hB.cell (p:=⟨b,off+k*4+1,none⟩) hbw).trans c1
   have d2:=(hB.cell (p:=⟨b,off+k*4+2,none⟩) hbw).trans c2
   have d3:=(hB.cell (p:=⟨b,off+k*4+3,none⟩) hbw).trans c3
   obtain ⟨hw1,hw2⟩:=hwf p (List.mem_of_getElem? hp)
   have hM1:=hM.alloc (.cells #[.int .i64 p.1,.int .i64 p.2,.string (ss k),.float .f64 (fs k)] 72)
   obtain ⟨c,hl,hlc⟩:=hM1.look ty100 ty3 ty3 (hz3 _) hw1
   have hB1:=hB.alloc hB.size (.cells #[.int .i64 p.1,.int .i64 p.2,.string (ss k),.float .f64 (fs k)] 72)
   cases hfk:(lD (ps.take k) p.1).isSome with
   | true=>
     rw [hfk] at hl
     gi_wp2
     refine ⟨⟨k+1,by omega,by simp,?_,hB1⟩,by simp [TH];omega⟩
     rw [L4 hp];exact hM1.same hfk
   | false=>
     rw [hfk] at hl
     obtain ⟨w2,hs,hM2,hg2⟩:=hM1.stored ty100 ty3 ty3 hfk (by simp [maxLen];omega) hw1 hw2
     gi_wp2
     refine ⟨⟨k+1,by omega,by simp,?_,RK hB1 hg2 (Nat.le_refl _) (Nat.le_refl _)⟩,by simp [TH];omega⟩
     rw [L4 hp];exact hM2
  ·gi_wp2
   obtain rfl:k=ps.length:=by omega
   rw [List.take_length] at hM
   refine bodyPost_ret (results_tmp rfl _ _ _) rfl ?_
   exact ⟨rfl,hM,hB⟩
theorem N8 (nF:Nat) (w:World) (m:Option Nat) (x:Int):
  CallsIn Fence.wide nF Tryz.prog 147 #[.map m,.int .i64 x] w fun e W'=>e= .returned (.func (.func 202) #[] #[.pointer (some ⟨w.heap.size,0,none⟩),.pointer (some ⟨w.heap.size+1,0,none⟩)])/\
   W'=(w.alloc (.cells #[.map m] 161)).alloc (.cells #[.int .i64 x] 3):=by
 have hfn: ∀f,Fence.wide.fn f:=fun _=>trivial
 have hdep:Fence.wide.depth.isSome=false:=rfl
 have hf:Tryz.prog.funcs[147]? =some Tryz.f147:=by kernel_rfl
 have hn:Tryz.f147.ntmps=6:=by kernel_rfl
 refine callsIn_of_wp hf rfl trivial ?_ rfl
 simp only [hn,List.size_toArray,List.length_cons,List.length_nil,Nat.reduceAdd,Nat.reduceSub,Array.replicate_succ,Array.replicate_zero,List.push_toArray,List.append_toArray,List.nil_append,List.cons_append]
 gi_wp2
 refine bodyPost_ret (results_tmp rfl _ _ _) rfl ?_
 exact ⟨rfl,rfl⟩
set_option maxHeartbeats 2000000 in
theorem Rc (nF l b c bm n N:Nat) (f:Int->Option Int) (x0:Int) (hx0:(Lit.int .i64 x0).wf=true) (hfw: ∀k v,f k=some v->(Lit.int .i64 v).wf=true) (J Jx:List Int->World->Prop)
  (hJ: ∀s A B,J s A->(∃v,B=A.setCell ⟨c,0,none⟩ v)->J s B) (hJx: ∀s A B,Jx s A->(∃v,B=A.setCell ⟨c,0,none⟩ v)->Jx s B) (hb:b < n) (hc:c < n) (hm:bm < n) (hbc:b≠c) (hmc:bm≠c)
  (hY: ∀pre x W1,J pre W1->YieldAt Fence.wide (nF - 1) Tryz.prog l #[.int .i64 x] W1 fun e W'=>(e= .returned (.bool true)/\J (pre++[x]) W'/\Below n W1 W')\/(e= .returned (.bool false)/\Jx (pre++[x]) W'))
  (W:World) (b1:Boxed W b 161 (.map (some bm))) (b2:Boxed W c 3 (.int .i64 x0)) (hM:fo W Tryz.prog 3 3 bm N f) (hN:N<=2 ^ 40) (h0:J [] W):
  CallsIn Fence.wide nF Tryz.prog 202 #[.func (.yield l) #[] #[],.pointer (some ⟨b,0,none⟩),.pointer (some ⟨c,0,none⟩)] W fun e W'=>(∃v,e= .returned v)/\
   ((∃ys,ys=upto f N x0/\J ys W')\/(∃pre,pre <+:upto f N x0/\Jx pre W')):=by
 have hfn: ∀f,Fence.wide.fn f:=fun _=>trivial
 have hdep:Fence.wide.depth.isSome=false:=rfl
 have hf:Tryz.prog.funcs[202]? =some Tryz.f202:=by kernel_rfl
 have hn:Tryz.f202.ntmps=26:=by kernel_rfl
 have ty3:Tryz.prog.underlying 3=some (.int .i64):=by kernel_rfl
 have ty100:Tryz.prog.underlying 161=some (.map 3 3):=by kernel_rfl
 have hz3: ∀w,(zeroValue 3).run Tryz.prog w= .ok (.int .i64 0) w:=fun w=>by kernel_rfl
 have hlen:=hM.len ty100 3
 have h1:=b1.cell
 have h2:=b2.cell
 refine callsIn_of_wp hf rfl trivial ?_ rfl
 simp only [hn,List.size_toArray,List.length_cons,List.length_nil,Nat.reduceAdd,Nat.reduceSub,Array.replicate_succ,Array.replicate_zero,List.push_toArray,List.append_toArray,List.nil_append,List.cons_append]
 gi_wp2
 gi_loopw [8] (fun i wr=> ∃(k:Nat) (pre:List Int) (x:Int),k<=N/\i= .int .i64 k/\pre++upto f (N - k) x=upto f N x0/\(Lit.int .i64 x).wf=true/\J pre wr/\Boxed wr b 161 (.map (some bm))/\Boxed wr c 3 (.int .i64 x)/\fo wr Tryz.prog 3 3 bm N f)
  (fun i _=>N - (TH i).toNat)
 case atStart=>exact ⟨0,[],x0,Nat.zero_le _,rfl,by simp,hx0,h0,b1,b2,hM⟩
 case round=>
  obtain ⟨k,pre,x,hk,rfl,hu,hx,hJs,e1,e2,hMr⟩:=hrel
  have g1:=e1.cell
  have g2:=e2.cell
  by_cases hkl:k < N
  ·obtain ⟨d,hl,hld⟩:=hMr.look ty100 ty3 ty3 (hz3 _) hx
   have hsk:N - k=(N - (k+1))+1:=by omega
   cases hfx:f x with
   | none=>
     rw [hfx] at hl
     rw [hsk] at hu
     simp only [upto,hfx,List.append_nil] at hu
     gi_wp2
     first | (refine ⟨fun f h=>(by cases h),?_⟩;gi_wp2) | skip
     refine bodyPost_ret (results_none rfl _ _ _) rfl ?_
     exact ⟨⟨_,rfl⟩,.inl ⟨pre,hu,hJs⟩⟩
   | some y=>
     rw [hfx] at hl
     obtain rfl:=hld y hfx
     rw [hsk] at hu
     simp only [upto,hfx] at hu
     obtain ⟨fn,tmps,assign,body,hy,hR⟩:=hY pre d wr hJs
     have hwd:=hfw x d hfx
     gi_wp2
     refine hR.mono ?_
     rintro e W3 (⟨rfl,hJ3,hk3⟩ | ⟨rfl,hJx3⟩)
     ·have q1:Boxed W3 b 161 (.map (some bm)):=(hk3.block b hb).trans e1
      have q2:Boxed W3 c 3 (.int .i64 x):=(hk3.block c hc).trans e2
      have q3:fo W3 Tryz.prog 3 3 bm N f:=hMr.below hm hk3
      have i1:=q2.cell
      have i2:=q2.frozen
      gi_wp2
      refine ⟨⟨k+1,pre++[d],d,by omega,by simp,by simp [hu],hwd,hJ _ _ _ hJ3 ⟨_,rfl⟩,(Below.heap_setCell _ _ _ _ hbc).trans q1,q2.set _,q3.of_block (Below.heap_setCell _ _ _ _ hmc)⟩,by simp [TH];omega⟩
     ·gi_wp2
      refine bodyPost_ret (results_none rfl _ _ _) rfl ?_
      exact ⟨⟨_,rfl⟩,.inr ⟨pre++[d],⟨upto f (N - (k+1)) d,by simp [hu]⟩,hJx3⟩⟩
  ·gi_wp2
   obtain rfl:k=N:=by omega
   simp only [Nat.sub_self,upto,List.append_nil] at hu
   go_end0
   exact ⟨⟨_,rfl⟩,.inl ⟨pre,hu,hJs⟩⟩
theorem MV {ps:List (Int×Int)} (hwf: ∀p∈ps,(Lit.int .i64 p.1).wf=true/\(Lit.int .i64 p.2).wf=true) (k v:Int) (h:lD ps k=some v):(Lit.int .i64 v).wf=true:=by
 unfold lD at h
 obtain ⟨p,h1,rfl⟩:=Option.map_eq_some_iff.1 h
 exact (hwf p (List.mem_of_find?_eq_some h1)).2
set_option maxHeartbeats 2000000 in
theorem Xq (nF:Nat) (h1:1<=nF) (w:World) (A:Option Addr) (b off cap:Nat) (ps:List (Int×Int)) (ss:Nat->ByteArray) (fs:Nat->Nat) (hA:0 < ps.length->A=some ⟨b,off,none⟩) (hlt:0 < ps.length->b < w.heap.size) (hmax:ps.length<=2 ^ 40)
  (hwf: ∀p∈ps,(Lit.int .i64 p.1).wf=true/\(Lit.int .i64 p.2).wf=true)
  (hc: ∀(j:Nat) (p:Int×Int),ps[j]? =some p->w.cell? ⟨b,off+j*4,none⟩=some (.int .i64 p.1)/\w.cell? ⟨b,off+j*4+1,none⟩=some (.int .i64 p.2)/\w.cell? ⟨b,off+j*4+2,none⟩=some (.string (ss j))/\w.cell? ⟨b,off+j*4+3,none⟩=some (.float .f64 (fs j)))
  (x y:Int) (hy:(Lit.int .i64 y).wf=true):
  CallsIn Fence.wide nF Tryz.prog 153 #[.slice A ps.length cap,.int .i64 x,.int .i64 y] w fun e W'=>e= .returned (.bool ((upto (lD ps) (cA ps).length y).contains x))/\Below w.heap.size w W':=by
 have hfn: ∀f,Fence.wide.fn f:=fun _=>trivial
 have hdep:Fence.wide.depth.isSome=false:=rfl
 have hf:Tryz.prog.funcs[153]? =some Tryz.f153:=by kernel_rfl
 have hn:Tryz.f153.ntmps=16:=by kernel_rfl
 have ty3:Tryz.prog.underlying 3=some (.int .i64):=by kernel_rfl
 refine callsIn_of_wp_marks hf rfl trivial ?_ rfl
 simp only [hn,List.size_toArray,List.length_cons,List.length_nil,Nat.reduceAdd,Nat.reduceSub,Array.replicate_succ,Array.replicate_zero,List.push_toArray,List.append_toArray,List.nil_append,List.cons_append]
 obtain ⟨w1,hw1⟩: ∃w1,w1=(w.alloc (.cells #[.int .i64 x] 3)).alloc (.cells #[.bool false] 4):=⟨_,rfl⟩
 have hB1:Below w.heap.size w w1:=by rw [hw1];exact (((Below.refl _ w).alloc (Nat.le_refl _) _).alloc (by simp) _)
 have hs1:w1.heap.size=w.heap.size+2:=by rw [hw1];simp
 have bx:Boxed w1 w.heap.size 3 (.int .i64 x):=by rw [hw1];exact (Boxed.new w 3 _).alloc _
 have br:Boxed w1 (w.heap.size+1) 4 (.bool false):=by rw [hw1];have:=Boxed.new (w.alloc (.cells #[.int .i64 x] 3)) 4 (.bool false);simpa using this
 have hp:=fun n=>zL n w1 A b off cap ps ss fs hA (fun h=>by have:=hlt h;omega) hmax hwf (fun j p hj=>by
  have hb:=hlt (by have:=(List.getElem?_eq_some_iff.1 hj).1;omega)
  obtain ⟨c0,c1,c2,c3⟩:=hc j p hj
  exact ⟨(hB1.cell (p:=⟨b,off+j*4,none⟩) hb).trans c0,(hB1.cell (p:=⟨b,off+j*4+1,none⟩) hb).trans c1,(hB1.cell (p:=⟨b,off+j*4+2,none⟩) hb).trans c2,(hB1.cell (p:=⟨b,off+j*4+3,none⟩) hb).trans c3⟩)
 gi_wp2_with (first | (gi_at_call 80;rw [<-hw1];refine (hp _).mono ?_;rintro e w2 ⟨rfl,hM2,hB2⟩) | (gi_at_call 147;refine (N8 _ _ _ _).mono ?_;rintro e w3 ⟨rfl,hw3⟩))
 have hs2:=hB2.size
 obtain ⟨w4,hw4⟩: ∃w4,w4=(w2.alloc (.cells #[.map (some (w.heap.size+1+1))] 161)).alloc (.cells #[.int .i64 y] 3):=⟨_,rfl⟩
 rw [<-hw4]
 have hs4:w4.heap.size=w2.heap.size+2:=by rw [hw4];simp
 have bm4:Boxed w4 w2.heap.size 161 (.map (some (w.heap.size+1+1))):=by rw [hw4];exact (Boxed.new w2 161 _).alloc _
 have bf4:Boxed w4 (w2.heap.size+1) 3 (.int .i64 y):=by rw [hw4];have:=Boxed.new (w2.alloc (.cells #[.map (some (w.heap.size+1+1))] 161)) 3 (.int .i64 y);simpa using this
 have e2:w1.heap.size=w.heap.size+1+1:=by omega
 rw [e2] at hM2
 have hM4:fo w4 Tryz.prog 3 3 (w.heap.size+1+1) (cA ps).length (lD ps):=by rw [hw4];exact (hM2.alloc _).alloc _
 have hMlt:=hM2.lt
 have h24:Below w2.heap.size w2 w4:=by rw [hw4];exact ((Below.refl _ w2).alloc (Nat.le_refl _) _).alloc (by simp) _
 have hB4:Below w.heap.size w w4:=(hB1.trans (hB2.mono (by omega))).trans (h24.mono (by omega))
 have bx4:Boxed w4 w.heap.size 3 (.int .i64 x):=(h24.block _ (by omega)).trans ((hB2.block _ (by omega)).trans bx)
 have br4:Boxed w4 (w.heap.size+1) 4 (.bool false):=(h24.block _ (by omega)).trans ((hB2.block _ (by omega)).trans br)
 refine AN rfl h1 (gf:=202) (lb:= #[.pointer (some ⟨w2.heap.size,0,none⟩),.pointer (some ⟨w2.heap.size+1,0,none⟩)]) rfl trivial (enters_of (f:=Tryz.f202) (by kernel_rfl) (by kernel_rfl) (by kernel_rfl))
  (encs:=fun x:Int=> #[.int .i64 x]) (Kp:=Below w4.heap.size) (Chg:=fun A B=> ∃v,B=A.setCell ⟨w2.heap.size+1,0,none⟩ v) (S:=fun xs=>xs=upto (lD ps) (cA ps).length y) (Sp:=fun pre=>pre <+:upto (lD ps) (cA ps).length y)
  (fun l J Jx W hW hJ hJx hY h0=>Rc (nF - 1) l w2.heap.size (w2.heap.size+1) (w.heap.size+1+1) w4.heap.size (cA ps).length (lD ps) y hy (MV hwf) J Jx hJ hJx (by omega) (by omega) (by omega) (by omega) (by omega) (fun pre x W1=>hY pre x W1 trivial) W
    ((hW.block _ (by omega)).trans bm4) ((hW.block _ (by omega)).trans bf4) (hM4.below (by omega) hW) (Nat.le_trans (Bk ps) hmax) h0)
  ?c1 belowK_t (belowK_b (Nat.le_refl _)) (fun _=>rfl)
  (fun pre W=>((Boxed W w.heap.size 3 (.int .i64 x)/\Boxed W (w.heap.size+1) 4 (.bool false))/\x∉pre)/\Below w.heap.size w W)
  (fun c pre W=>((c= .ret/\Boxed W (w.heap.size+1) 4 (.bool true))/\x∈pre)/\Below w.heap.size w W)
  ?c2 ?c3 ?c4 ?c5 ⟨⟨⟨bx4,br4⟩,by simp⟩,hB4⟩
  (fun z=>{ tmps:= #[.slice A ps.length cap,.int .i64 x,.int .i64 y,undef,.pointer (some ⟨w.heap.size,0,none⟩),undef,.pointer (some ⟨w.heap.size+1,0,none⟩),.int .i64 z,.slice A ps.length cap,.map (some (w.heap.size+1+1)),.int .i64 y,
     .func (.func 202) #[] #[.pointer (some ⟨w2.heap.size,0,none⟩),.pointer (some ⟨w2.heap.size+1,0,none⟩)],.int .i64 z,undef,undef,undef],defers:=[] }) ?assign ?body ?done ?stop
 case c1=>rintro A B k o ⟨v,rfl⟩ hk ho hn;rw [Below.heap_setCell _ _ _ _ (by simp;omega)];exact ho
 case c2=>
  refine OwnFrom.two <| OwnFrom.and (fun s X Y row hs hg hr=>⟨⟨?_,?_⟩,hs.2⟩) (ownFrom_below (Nat.le_refl _) (by omega))
  ·exact hs.1.1.kept hg (fun e=>by have:=(hr _ e.symm).1;omega)
  ·exact hs.1.2.kept hg (fun e=>by have:=(hr _ e.symm).1;omega)
 case c3=>
  intro c
  refine OwnFrom.two <| OwnFrom.and (fun s X Y row hs hg hr=>⟨⟨hs.1.1,?_⟩,hs.2⟩) (ownFrom_below (Nat.le_refl _) (by omega))
  exact hs.1.2.kept hg (fun e=>by have:=(hr _ e.symm).1;omega)
 case c4=>
  rintro s X Y ⟨v,rfl⟩ ⟨⟨⟨i1,i2⟩,i3⟩,i4⟩
  exact ⟨⟨⟨(Below.heap_setCell _ _ _ _ (by simp;omega)).trans i1,(Below.heap_setCell _ _ _ _ (by simp;omega)).trans i2⟩,i3⟩,i4.setCell (by simp;omega) _⟩
 case c5=>
  rintro c s X Y ⟨v,rfl⟩ ⟨⟨⟨i1,i2⟩,i3⟩,i4⟩
  exact ⟨⟨⟨i1,(Below.heap_setCell _ _ _ _ (by simp;omega)).trans i2⟩,i3⟩,i4.setCell (by simp;omega) _⟩
 case assign=>
  intro l z W K hK
  gi_wp2
  exact hK
 case body=>
  rintro l pre z W ⟨⟨⟨i1,i2⟩,i3⟩,i4⟩
  have j1:=i1.cell
  have j2:=i2.cell
  have j3:=i2.frozen
  by_cases hzx:z=x
  ·gi_wp2
   exact ⟨(KeepsOthers.setCell W ⟨w.heap.size+1,0,none⟩ (.bool true)).from _,⟨⟨rfl,i2.set _⟩,by simp [hzx]⟩,i4.setCell (p:=⟨w.heap.size+1,0,none⟩) (by simp) _⟩
  ·gi_wp2
   exact ⟨KeepsFrom.refl _ _,Below.refl _ _,⟨⟨i1,i2⟩,by simp only [List.mem_append,List.mem_singleton,not_or];exact ⟨i3,fun e=>hzx e.symm⟩⟩,i4⟩
 case done=>
  rintro D xs W hD rfl ⟨⟨⟨i1,i2⟩,i3⟩,i4⟩ hK
  have j2:=i2.cell
  have j3:=i2.frozen
  gi_wp2
  have hK':=(KeepsOthers.setCell W ⟨w.heap.size+1,0,none⟩ (.bool false)).same D _ hK rfl
  refine ⟨by simp,.inl ⟨_,_,rfl,run_takeDeferred hK',?_⟩⟩
  have hc5:=cell_kept (i2.set (.bool false)).cell (grownBy_putObj' _ D (.deferred none)) (fun r e=>by cases e;exact ⟨_,hK',rfl⟩)
  have hres:((upto (lD ps) (cA ps).length y).contains x)=false:=by simpa using i3
  refine ⟨.bool false,?_,by rw [hres],(i4.setCell (p:=⟨w.heap.size+1,0,none⟩) (by simp) _).trans (belowK_b (w:=w) (Nat.le_refl _) _ D _ _ (by omega) hK' rfl rfl)⟩
  have hr:Tryz.f153.results= #[.cell 6 4]:=by kernel_rfl
  simp [results,hr,go_sem,hc5]
 case stop=>
  rintro D c pre W hD hpre ⟨⟨⟨rfl,i2⟩,i3⟩,i4⟩ hK
  have j2:=i2.cell
  gi_wp2
  refine ⟨by simp,.inl ⟨_,_,rfl,run_takeDeferred hK,?_⟩⟩
  have hc5:=cell_kept i2.cell (grownBy_putObj' _ D (.deferred none)) (fun r e=>by cases e;exact ⟨_,hK,rfl⟩)
  have hres:((upto (lD ps) (cA ps).length y).contains x)=true:=by simpa using hpre.subset i3
  refine ⟨.bool true,?_,by rw [hres],i4.trans (belowK_b (w:=w) (Nat.le_refl _) W D _ _ (by omega) hK rfl rfl)⟩
  have hr:Tryz.f153.results= #[.cell 6 4]:=by kernel_rfl
  simp [results,hr,go_sem,hc5]
end Go.AM
