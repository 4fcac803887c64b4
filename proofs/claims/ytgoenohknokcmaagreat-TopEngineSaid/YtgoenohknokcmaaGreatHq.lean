/- Walk by hand: tree.path, tree.Path: a node's way up. -/
import Derived.Test.YtgoenohknokcmaaGreatAf
import Derived.Test.YtgoenohknokcmaaGreatHd
import Derived.Test.YtgoenohknokcmaaGreatProg
set_option linter.unusedVariables false
set_option linter.unusedSimpArgs false
set_option maxRecDepth 100000
namespace Go.AM
open Go.Proofs Go.RowKit Go.Shelf Go.Maps Go.Sort
 attribute [local go_sem] Oper.semAt_some
set_option maxHeartbeats 2000000 in
theorem Uo (nF l b c bm N:Nat) (f:Int->Option Int) (x0:Int) (hx0:(Lit.int .i64 x0).wf=true) (hfw: ∀k v,f k=some v->(Lit.int .i64 v).wf=true) (J Jx:List Int->World->Prop)
  (hJ: ∀s A B,J s A->(∃v,B=A.setCell ⟨c,0,none⟩ v)->J s B) (hJx: ∀s A B,Jx s A->(∃v,B=A.setCell ⟨c,0,none⟩ v)->Jx s B) (hbc:b≠c) (hmc:bm≠c)
  (hY: ∀pre x W1,pre.length < N->J pre W1->YieldAt Fence.wide (nF - 1) Tryz.prog l #[.int .i64 x] W1 fun e W'=>(e= .returned (.bool true)/\J (pre++[x]) W'/\Kp3 b c bm W1 W')\/(e= .returned (.bool false)/\Jx (pre++[x]) W'))
  (W:World) (b1:Boxed W b 161 (.map (some bm))) (b2:Boxed W c 3 (.int .i64 x0)) (hM:fo W Tryz.prog 3 3 bm N f) (hN:N<=2 ^ 40) (h0:J [] W):
  CallsIn Fence.wide nF Tryz.prog 202 #[.func (.yield l) #[] #[],.pointer (some ⟨b,0,none⟩),.pointer (some ⟨c,0,none⟩)] W fun e W'=>(∃v,e= .returned v)/\
   ((∃ys,ys=upto f N x0/\J ys W')\/(∃pre,pre <+:upto f N x0/\Jx pre W')):=by
 have hfn: ∀f,Fence.wide.fn f:=fun _=>trivial
 have hdep:Fence.wide.depth.isSome=false:=rfl
 have hf:Tryz.prog.funcs[202]? =some Tryz.f202:=by kernel_rfl
 have hn:Tryz.f202.ntmps=26:=by kernel_rfl
 have ty3:Tryz.prog.underlying 3=some (.int .i64):=by kernel_rfl
 have ty100:Tryz.prog.underlying 161=some (.map 3 3):=by kernel_rfl
 have hz3: ∀w,(zeroValue 3).run Tryz.prog w= .ok (.int .i64 0) w:=fun w=>by kernel_rfl
 have hlen:=hM.len ty100 3
 have h1:=b1.cell
 have h2:=b2.cell
 refine callsIn_of_wp hf rfl trivial ?_ rfl
 simp only [hn,List.size_toArray,List.length_cons,List.length_nil,Nat.reduceAdd,Nat.reduceSub,Array.replicate_succ,Array.replicate_zero,List.push_toArray,List.append_toArray,List.nil_append,List.cons_append]
 gi_wp2
 gi_loopw [8] (fun i wr=> ∃(k:Nat) (pre:List Int) (x:Int),(k<=N/\pre.length=k)/\i= .int .i64 k/\pre++upto f (N - k) x=upto f N x0/\(Lit.int .i64 x).wf=true/\J pre wr/\Boxed wr b 161 (.map (some bm))/\Boxed wr c 3 (.int .i64 x)/\fo wr Tryz.prog 3 3 bm N f)
  (fun i _=>N - (TH i).toNat)
 case atStart=>exact ⟨0,[],x0,⟨Nat.zero_le _,rfl⟩,rfl,by simp,hx0,h0,b1,b2,hM⟩
 case round=>
  obtain ⟨k,pre,x,⟨hk,hkl0⟩,rfl,hu,hx,hJs,e1,e2,hMr⟩:=hrel
  have g1:=e1.cell
  have g2:=e2.cell
  by_cases hkl:k < N
  ·obtain ⟨d,hl,hld⟩:=hMr.look ty100 ty3 ty3 (hz3 _) hx
   have hsk:N - k=(N - (k+1))+1:=by omega
   cases hfx:f x with
   | none=>
     rw [hfx] at hl
     rw [hsk] at hu
     simp only [upto,hfx,List.append_nil] at hu
     gi_wp2
     first | (refine ⟨fun f h=>(by cases h),?_⟩;gi_wp2) | skip
     refine bodyPost_ret (results_none rfl _ _ _) rfl ?_
     exact ⟨⟨_,rfl⟩,.inl ⟨pre,hu,hJs⟩⟩
   | some y=>
     rw [hfx] at hl
     obtain rfl:=hld y hfx
     rw [hsk] at hu
     simp only [upto,hfx] at hu
     obtain ⟨fn,tmps,assign,body,hy,hR⟩:=hY pre d wr (by omega) hJs
     have hwd:=hfw x d hfx
     gi_wp2
     refine hR.mono ?_
     rintro e W3 (⟨rfl,hJ3,hk3⟩ | ⟨rfl,hJx3⟩)
     ·have q1:Boxed W3 b 161 (.map (some bm)):=hk3.1.trans e1
      have q2:Boxed W3 c 3 (.int .i64 x):=hk3.2.1.trans e2
      have q3:fo W3 Tryz.prog 3 3 bm N f:=hMr.of_block hk3.2.2
      have i1:=q2.cell
      have i2:=q2.frozen
      gi_wp2
      refine ⟨⟨k+1,pre++[d],d,⟨by omega,by simp [hkl0]⟩,by simp,by simp [hu],hwd,hJ _ _ _ hJ3 ⟨_,rfl⟩,(Below.heap_setCell _ _ _ _ hbc).trans q1,q2.set _,q3.of_block (Below.heap_setCell _ _ _ _ hmc)⟩,by simp [TH];omega⟩
     ·gi_wp2
      refine bodyPost_ret (results_none rfl _ _ _) rfl ?_
      exact ⟨⟨_,rfl⟩,.inr ⟨pre++[d],⟨upto f (N - (k+1)) d,by simp [hu]⟩,hJx3⟩⟩
  ·gi_wp2
   obtain rfl:k=N:=by omega
   simp only [Nat.sub_self,upto,List.append_nil] at hu
   go_end0
   exact ⟨⟨_,rfl⟩,.inl ⟨pre,hu,hJs⟩⟩
theorem UG (nF:Nat) (w:World) (bm N:Nat) (f:Int->Option Int) (hM:fo w Tryz.prog 3 3 bm N f) (c:Int) (hcw:(Lit.int .i64 c).wf=true):
  CallsIn Fence.wide nF Tryz.prog 149 #[.map (some bm),.int .i64 c] w fun e W'=>e= .returned (.bool (f c).isSome)/\Below w.heap.size w W':=by
 have hfn: ∀f,Fence.wide.fn f:=fun _=>trivial
 have hdep:Fence.wide.depth.isSome=false:=rfl
 have hf:Tryz.prog.funcs[149]? =some Tryz.f149:=by kernel_rfl
 have ty3:Tryz.prog.underlying 3=some (.int .i64):=by kernel_rfl
 have tym:Tryz.prog.underlying 161=some (.map 3 3):=by kernel_rfl
 have hz3: ∀w,(zeroValue 3).run Tryz.prog w= .ok (.int .i64 0) w:=fun w=>by kernel_rfl
 obtain ⟨d,hl,hld⟩:=hM.look tym ty3 ty3 (hz3 _) hcw
 refine callsIn_of_wp hf rfl trivial ?_ rfl
 have hn:Tryz.f149.ntmps=14:=by kernel_rfl
 simp only [hn,List.size_toArray,List.length_cons,List.length_nil,Nat.reduceAdd,Nat.reduceSub,Array.replicate_succ,Array.replicate_zero,List.push_toArray,List.append_toArray,List.nil_append,List.cons_append]
 gi_wp2
 refine bodyPost_ret (results_tmp rfl _ _ _) rfl ?_
 exact ⟨rfl,Below.refl _ _⟩
def Xz (w:World) (c:Int) (pre:List Int) (W:World):Prop:=
 (Boxed W w.heap.size 84 (.slice none 0 0)/\Boxed W (w.heap.size+1) 4 (.bool false))/\
   (∃v,Boxed W (w.heap.size+3) 84 v/\W.ownsRow w.heap.size 3 1 v (c::pre).length ((c::pre).map encZ)/\ ∀g,v.ownBlock=some g->g=w.heap.size+2\/w.heap.size+6<=g)/\
   qL [c] pre=some (c::pre)/\Below w.heap.size w W/\w.heap.size+6<=W.heap.size
def abB (w:World) (c:Int) (pre:List Int) (W:World):Prop:=
 Boxed W w.heap.size 84 (.slice none 0 0)/\Boxed W (w.heap.size+1) 4 (.bool false)/\qL [c] pre=none/\Below w.heap.size w W
theorem Lj (w:World) (c:Int) (B:Nat) (hB:w.heap.size+6<=B):C6 B (Xz w c):=by
 rintro s W W' row ⟨⟨i1,i2⟩,⟨v,i3,i4,i5⟩,i6,i7,i8⟩ hg hr
 have hne: ∀b,b < w.heap.size+6->some b≠row:=fun b hb e=>by have:=(hr b e.symm).1;omega
 refine ⟨⟨i1.kept hg (hne _ (by omega)),i2.kept hg (hne _ (by omega))⟩,⟨v,i3.kept hg (hne _ (by omega)),i4.kept hg ?_,i5⟩,i6,i7.grown hg i7.size (fun k e=>by have:=(hr k e).1;omega),Nat.le_trans i8 hg.size⟩
 by_cases hv:v.ownBlock=none
 ·exact .inl hv
 ·refine .inr fun e=> ?_
  cases row with
  | none=>exact hv e
  | some r=>
    obtain ⟨_,o,ho,hoc⟩:=hr r rfl
    exact Nh i4 ho hoc e
theorem TL (f:Int->Option Int): ∀(N:Nat) (c:Int),(upto f N c).length<=N
 | 0,c=>by simp [upto]
 | N+1,c=>by
   unfold upto
   split
   ·simp
   ·rename_i x _
    have:=TL f N x
    simp;omega
theorem RM {f:Int->Option Int} (hfw: ∀k v,f k=some v->(Lit.int .i64 v).wf=true): ∀(N:Nat) (c x:Int),x∈upto f N c->(Lit.int .i64 x).wf=true
 | 0,c,x,h=>by simp [upto] at h
 | N+1,c,x,h=>by
   unfold upto at h
   split at h
   ·simp at h
   ·rename_i y hy
    rcases List.mem_cons.1 h with rfl | h
    ·exact hfw c _ hy
    ·exact RM hfw N y x h
theorem XC {f:Int->Option Int} (hfw: ∀k v,f k=some v->(Lit.int .i64 v).wf=true) {c:Int} (hc:(Lit.int .i64 c).wf=true) {N:Nat} (y:Int) (h:(c::upto f N c).getLast?=some y):(Lit.int .i64 y).wf=true:=by
 have:=List.mem_of_getLast? h
 rcases List.mem_cons.1 this with rfl | h
 ·exact hc
 ·exact RM hfw N c y h
def YC (w:World) (c:Int) (bm:Nat) (z:Int):Act:=
 { tmps:= #[.map (some bm),.int .i64 c,undef,undef,.pointer (some ⟨w.heap.size,0,none⟩),.pointer (some ⟨w.heap.size+1,0,none⟩),.pointer (some ⟨w.heap.size+3,0,none⟩),.int .i64 z,undef,.int .i64 c,.slice (some ⟨w.heap.size+2,0,none⟩) 1 1,.map (some bm),.int .i64 c,
     .func (.func 202) #[] #[.pointer (some ⟨w.heap.size+4,0,none⟩),.pointer (some ⟨w.heap.size+5,0,none⟩)],.int .i64 z,undef,undef,undef,undef,undef,undef,undef,undef,undef,undef,undef,undef,undef,undef,undef,undef,undef,undef,undef,undef,undef],defers:=[] }
set_option maxHeartbeats 4000000 in
theorem XH (nF:Nat) (h1:1<=nF) (w:World) (bm N:Nat) (f:Int->Option Int) (hM:fo w Tryz.prog 3 3 bm N f) (hN:N<=50000) (hfw: ∀k v,f k=some v->(Lit.int .i64 v).wf=true) (c:Int) (hcw:(Lit.int .i64 c).wf=true)
  (hcon: ∀(W:World) (B:Nat) (v:Value) (zs:List Int) (x:Int),W.ownsRow B 3 1 v zs.length (zs.map encZ)->zs.length<=100000->Calls Tryz.prog 148 #[v,.int .i64 x] W fun e W'=>e= .returned (.bool (zs.contains x))/\Below W.heap.size W W'):
  CallsIn Fence.wide nF Tryz.prog 79 #[.map (some bm),.int .i64 c] w fun e W'=> ∃sv b,e= .returned (.tuple #[sv,.bool b])/\Below w.heap.size w W'/\LF W' w.heap.size (rS f N c) sv b:=by
 have hfn: ∀f,Fence.wide.fn f:=fun _=>trivial
 have hdep:Fence.wide.depth.isSome=false:=rfl
 have hf:Tryz.prog.funcs[79]? =some Tryz.f79:=by kernel_rfl
 have hn:Tryz.f79.ntmps=36:=by kernel_rfl
 have ty3:Tryz.prog.underlying 3=some (.int .i64):=by kernel_rfl
 have tyi:Tryz.prog.underlying 84=some (.slice 3):=by kernel_rfl
 obtain ⟨i0,hi,hz0,hz1,hz2⟩:=info_parts (P:=Tryz.prog) (e:=3) (z:= .int .i64 0) (size:=1) (bytes:=8) (by kernel_rfl)
 have hmlt:=hM.lt
 refine callsIn_of_wp_marks hf rfl trivial ?_ rfl
 simp only [hn,List.size_toArray,List.length_cons,List.length_nil,Nat.reduceAdd,Nat.reduceSub,Array.replicate_succ,Array.replicate_zero,List.push_toArray,List.append_toArray,List.nil_append,List.cons_append]
 gi_wp2_with (first | (gi_at_call 147;refine (N8 _ _ _ _).mono ?_;rintro e w3 ⟨rfl,hw3⟩))
 rw [<-hw3]
 have hs3:w3.heap.size=w.heap.size+6:=by rw [hw3];simp
 obtain ⟨H,hH⟩: ∃H,H=w.heap.size:=⟨_,rfl⟩
 have hB3:Below w.heap.size w w3:=by rw [hw3];exact (((((((Below.refl _ w).alloc (Nat.le_refl _) _).alloc (by simp) _).alloc (by simp;omega) _).alloc (by simp;omega) _).alloc (by simp;omega) _).alloc (by simp;omega) _)
 have bA:Boxed w3 w.heap.size 84 (.slice none 0 0):=by rw [hw3];exact (((((Boxed.new w 84 _).alloc _).alloc _).alloc _).alloc _).alloc _
 have bB:Boxed w3 (w.heap.size+1) 4 (.bool false):=by
  rw [hw3]
  have:=Boxed.new (w.alloc (.cells #[.slice none 0 0] 84)) 4 (.bool false)
  rw [World.size_alloc] at this
  exact (((this.alloc _).alloc _).alloc _).alloc _
 have bR:w3.heap[w.heap.size+2]? =some (.cells #[.int .i64 c] 3 (0,0)):=by
  rw [hw3]
  have:=Boxed.new ((w.alloc (.cells #[.slice none 0 0] 84)).alloc (.cells #[.bool false] 4)) 3 (.int .i64 c)
  simp only [World.size_alloc] at this
  exact ((this.alloc _).alloc _).alloc _
 have bO:Boxed w3 (w.heap.size+3) 84 (.slice (some ⟨w.heap.size+2,0,none⟩) 1 1):=by
  rw [hw3]
  have:=Boxed.new (((w.alloc (.cells #[.slice none 0 0] 84)).alloc (.cells #[.bool false] 4)).alloc (.cells #[.int .i64 c] 3)) 84 (.slice (some ⟨w.heap.size+2,0,none⟩) 1 1)
  simp only [World.size_alloc] at this
  exact (this.alloc _).alloc _
 have bM:Boxed w3 (w.heap.size+4) 161 (.map (some bm)):=by
  rw [hw3]
  have:=Boxed.new ((((w.alloc (.cells #[.slice none 0 0] 84)).alloc (.cells #[.bool false] 4)).alloc (.cells #[.int .i64 c] 3)).alloc (.cells #[.slice (some ⟨w.heap.size+2,0,none⟩) 1 1] 84)) 161 (.map (some bm))
  simp only [World.size_alloc] at this
  exact this.alloc _
 have bC:Boxed w3 (w.heap.size+5) 3 (.int .i64 c):=by
  rw [hw3]
  have:=Boxed.new (((((w.alloc (.cells #[.slice none 0 0] 84)).alloc (.cells #[.bool false] 4)).alloc (.cells #[.int .i64 c] 3)).alloc (.cells #[.slice (some ⟨w.heap.size+2,0,none⟩) 1 1] 84)).alloc (.cells #[.map (some bm)] 161)) 3 (.int .i64 c)
  simp only [World.size_alloc] at this
  exact this
 have hM3:fo w3 Tryz.prog 3 3 bm N f:=hM.below hmlt hB3
 have rowR:w3.ownsRow w.heap.size 3 1 (.slice (some ⟨w.heap.size+2,0,none⟩) 1 1) 1 [.int .i64 c]:=⟨rfl,.inr ⟨_,1,#[.int .i64 c],rfl,by omega,bR,Nat.le_refl _,by simp [maxLen],rfl,rfl⟩⟩
 clear hw3
 refine s6 rfl h1 (gf:=202) (lb:= #[.pointer (some ⟨w.heap.size+4,0,none⟩),.pointer (some ⟨w.heap.size+5,0,none⟩)]) rfl trivial (enters_of (f:=Tryz.f202) (by kernel_rfl) (by kernel_rfl) (by kernel_rfl))
  (encs:=fun x:Int=> #[.int .i64 x]) (R:=fun pre _=>pre.length < N) (Kp:=Kp3 (w.heap.size+4) (w.heap.size+5) bm) (Chg:=fun A B=> ∃v,B=A.setCell ⟨w.heap.size+5,0,none⟩ v) (S:=fun xs=>xs=upto f N c) (Sp:=fun pre=>pre <+:upto f N c)
  (fun l J Jx W hW hJ hJx hY h0=>Uo (nF - 1) l (w.heap.size+4) (w.heap.size+5) bm N f c hcw hfw J Jx hJ hJx (by omega) (by omega) hY W
    ((hW.block _ (by omega)).trans bM) ((hW.block _ (by omega)).trans bC) (hM3.below (by omega) hW) (by omega) h0)
  ?c1 (fun h k=>h.trans k) (fun W l o o' hl ho hc hw=>⟨World.putObj_heap_other (by omega),World.putObj_heap_other (by omega),World.putObj_heap_other (by omega)⟩) (fun _=>rfl)
  (fun pre W=>Xz w c pre W)
  (fun cd pre W=>cd= .ret/\abB w c pre W)
  ?c2 ?c3 ?c4 ?c5 ⟨⟨bA,bB⟩,⟨_,bO,rowR,fun g hg=> .inl (by simpa [Value.ownBlock] using hg.symm)⟩,rfl,hB3,by omega⟩
  (fun pre x a' W=>Xz w c pre W/\a'=YC w c bm x)
  ?c7 ?assign ?body ?done ?stop
 case c1=>rintro A B k o ⟨v,rfl⟩ hk ho hn;rw [Below.heap_setCell _ _ _ _ (by simp;omega)];exact ho
 case c2=>exact Lj w c _ (by omega)
 case c3=>
  rintro cd s W W' row ⟨rfl,i1,i2,i3,i4⟩ hg hr
  have hne: ∀b,b < w.heap.size+6->some b≠row:=fun b hb e=>by have:=(hr b e.symm).1;omega
  exact ⟨rfl,i1.kept hg (hne _ (by omega)),i2.kept hg (hne _ (by omega)),i3,i4.grown hg i4.size fun k e=>by have:=(hr k e).1;omega⟩
 case c4=>
  rintro s X Y ⟨v,rfl⟩ ⟨⟨i1,i2⟩,⟨u,i3,i4,i5⟩,i6,i7,i8⟩
  refine ⟨⟨(Below.heap_setCell _ _ _ _ (by simp)).trans i1,(Below.heap_setCell _ _ _ _ (by simp)).trans i2⟩,⟨u,(Below.heap_setCell _ _ _ _ (by simp)).trans i3,i4.kept (grownBy_setCell0_a X (w.heap.size+5) v) (.inr fun e=> ?_),i5⟩,i6,i7.setCell (by simp) _,by simpa using i8⟩
  have:=i5 _ e;omega
 case c5=>
  rintro cd s X Y ⟨v,rfl⟩ ⟨rfl,i1,i2,i3,i4⟩
  exact ⟨rfl,(Below.heap_setCell _ _ _ _ (by simp)).trans i1,(Below.heap_setCell _ _ _ _ (by simp)).trans i2,i3,i4.setCell (by simp) _⟩
 case c7=>exact fun x a' s W W' row h hg hr=>⟨Lj w c _ (by omega) s W W' row h.1 hg hr,h.2⟩
 case assign=>
  intro l pre z W K hWs hR hI hK
  gi_wp2
  exact hK _ _ ⟨hI,rfl⟩ (KeepsFrom.refl _ _) ⟨rfl,rfl,rfl⟩
 case body=>
  rintro l pre z a' W hlen ⟨⟨⟨i1,i2⟩,⟨u,i3,i4,i5⟩,i6,i7,i8⟩,rfl⟩
  have g3:=i3.cell
  have f3:=i3.frozen
  have hdep2:(Fence.wide.inRound l).depth.isSome=false:=rfl
  have hfn2: ∀f,(Fence.wide.inRound l).fn f:=fun _=>trivial
  have hc:=hcon W w.heap.size u (c::pre) z i4 (by simp;omega)
  simp only [YC]
  by_cases hz:(c::pre).contains z=true
  ·rw [hz] at hc
   gi_wp2_with (first
    | (gi_at_call 148;refine (callsIn_wide.2 hc).mono ?_;rintro e w5 ⟨rfl,hB5⟩
       have q1:Boxed w5 w.heap.size 84 (.slice none 0 0):=(hB5.block _ (by omega)).trans i1
       have q2:Boxed w5 (w.heap.size+1) 4 (.bool false):=(hB5.block _ (by omega)).trans i2
       have q3:=q1.frozen
       have q4:=q1.cell
       have q5:=q2.frozen
       have q6:=q2.cell))
   refine ⟨(((qT hB5).trans (KeepsOthers.setCell _ _ _)).trans (KeepsOthers.setCell _ _ _)).from _,rfl,(Below.heap_setCell _ _ _ _ (by simp)).trans (q1.set _),(show Boxed _ _ _ _ from (Below.heap_setCell _ _ _ _ (by simp)).trans q2).set _,?_,((i7.trans (hB5.mono i7.size)).setCell (by simp) _).setCell (by simp) _⟩
   rw [zP,i6]
   simp only [Option.bind_some,hz,if_true]
  ·have hz':(c::pre).contains z=false:=by simpa using hz
   rw [hz'] at hc
   gi_wp2_with (first
    | (gi_at_call 148;refine (callsIn_wide.2 hc).mono ?_;rintro e w5 ⟨rfl,hB5⟩
       have q1:Boxed w5 w.heap.size 84 (.slice none 0 0):=(hB5.block _ (by omega)).trans i1
       have q2:Boxed w5 (w.heap.size+1) 4 (.bool false):=(hB5.block _ (by omega)).trans i2
       have q3:Boxed w5 (w.heap.size+3) 84 u:=(hB5.block _ (by omega)).trans i3
       have own5:=Lb i4 hB5
       have hs5:=hB5.size
       have c5:=q3.cell)
    | (gi_at_builtin;refine zC _ rfl _ _ 84 rfl w.heap.size 3 i0 (.int .i64 0) 1 8 tyi hi hz0 hz1 hz2 rfl (by decide) _ _ _ rfl (own5.alloc _) ⟨w5.heap.size,0,none⟩ 1 1 [.int .i64 z] rfl rfl (cell_one_new _ _ _) (by simp [Value.oneCell']) (by simp [maxLen];omega) (by simp;omega) (by simp;omega) ?_;intro v' w6 hown' hg6 hblk
       have hb6: ∀b,b < w.heap.size+2\/b=w.heap.size+3\/b=w.heap.size+4\/b=w.heap.size+5->b < w5.heap.size->w6.heap[b]? =w5.heap[b]? :=fun b hb hlt=>(hg6.block b (by simp;omega) (fun e=>by have:=i5 _ e.symm;omega)).trans (Below.heap_alloc _ _ _ hlt)
       have r3:Boxed w6 (w.heap.size+3) 84 u:=(hb6 _ (by omega) (by omega)).trans q3
       have c6:=r3.cell
       have f6:=r3.frozen
       have hs6:=hg6.size
       obtain ⟨g',cap',cur',rfl,hr0,hr1,hr2,hr3,hr4,hr5⟩: ∃g' cap' cur',v'= .slice (some ⟨g',0,none⟩) ((c::pre).length+1) cap'/\w.heap.size<=g'/\w6.heap[g']? =some (.cells cur' 3 (0,0))/\(c::pre).length+1<=cap'/\cap'<=maxLen/\cur'.size=cap'*1/\cur'.toList.take (((c::pre).length+1)*1)=(c::pre).map encZ++[.int .i64 z]:=by
        rcases hown'.2 with ⟨_,h0⟩ | h'
        ·exact absurd h0 (by omega)
        ·exact h'
       go_frame))
   have hg':g'=w.heap.size+2\/w.heap.size+6<=g':=by
    rcases hblk with e | e
    ·exact i5 g' e.symm
    ·simp [Value.ownBlock] at e;omega
   have hk6: ∀b,b < W.heap.size->(b < w.heap.size+2\/b=w.heap.size+4\/b=w.heap.size+5)->(w6.setCell ⟨w.heap.size+3,0,none⟩ (.slice (some ⟨g',0,none⟩) ((c::pre).length+1) cap')).heap[b]? =W.heap[b]? :=fun b hlt hb=>(Below.heap_setCell _ _ _ _ (by simp;omega)).trans ((hb6 b (by omega) (by omega)).trans (hB5.block b hlt))
   refine ⟨?_,⟨hk6 _ (by omega) (by omega),hk6 _ (by omega) (by omega),hk6 _ (by omega) (by omega)⟩,⟨(hk6 _ (by omega) (by omega)).trans i1,(hk6 _ (by omega) (by omega)).trans i2⟩,⟨_,r3.set _,?_,?_⟩,?_,?_,?_⟩
   ·exact ((((qT hB5).trans (KeepsOthers.alloc _ _)).trans (KeepsOthers.of_grownBy hg6 fun j o hj ho=>by
     cases o<;>first | rfl | exact absurd hj.symm (fun e=>Nh (own5.alloc _) ho rfl e.symm) | exact absurd hj (Nh (own5.alloc _) ho rfl))).trans (KeepsOthers.setCell _ _ _)).from _
   ·have hk:=hown'.kept (grownBy_setCell0_a w6 (w.heap.size+3) (.slice (some ⟨g',0,none⟩) ((c::pre).length+1) cap')) (.inr (by simp [Value.ownBlock];omega))
    simpa using hk
   ·intro g hg
    simp only [Value.ownBlock,Option.some.injEq] at hg
    omega
   ·rw [zP,i6]
    simp only [Option.bind_some,hz',Bool.false_eq_true,if_false,List.cons_append]
   ·exact (((i7.trans (hB5.mono i7.size)).alloc (by have:=i7.size;omega) _).grown hg6 (by simp;omega) (fun k e=>by have:=i5 k e;omega)).setCell (by simp) _
   ·have hg7:=hg6.size
    rw [World.size_alloc] at hg7
    simp;omega
 case done=>
  rintro D xs W rfl rfl ⟨⟨i1,i2⟩,⟨u,i3,i4,i5⟩,i6,i7,i8⟩ hK
  rw [hs3] at hK
  obtain ⟨m,hm⟩: ∃m,m=(upto f N c).length:=⟨_,rfl⟩
  obtain ⟨y,hy⟩: ∃y,(c::upto f N c)[m]? =some y:=⟨_,List.getElem?_eq_getElem (by simp [hm])⟩
  have hlast:(c::upto f N c).getLast?=some y:=by rw [List.getLast?_eq_getElem?,<-hy];congr 1;simp [hm]
  have hyw:(Lit.int .i64 y).wf=true:=XC hfw hcw _ hlast
  have hml:m < 2 ^ 40:=by
   have:=TL f N c
   omega
  obtain ⟨g,cap,cur,rfl,r0,r1,r2,r3,r4,r5⟩: ∃g cap cur,u= .slice (some ⟨g,0,none⟩) ((c::upto f N c).length) cap/\w.heap.size<=g/\W.heap[g]? =some (.cells cur 3 (0,0))/\(c::upto f N c).length<=cap/\cap<=maxLen/\cur.size=cap*1/\cur.toList.take ((c::upto f N c).length*1)=(c::upto f N c).map encZ:=by
   rcases i4.2 with ⟨_,h0⟩ | h'
   ·simp at h0
   ·exact h'
  have hcl:=i4.cells (g:=g) rfl m (.int .i64 y) (by rw [List.getElem?_map,hy];rfl)
  have hadd:(⟨g,0,none⟩:Addr).add m=⟨g,m,none⟩:=by unfold Addr.add;by_cases h:m=0<;>simp [h]
  rw [hadd] at hcl
  have hcl2:W.cell? ⟨g,m,none⟩=some (.int .i64 y):=hcl
  have hlen:(c::upto f N c).length=m+1:=by simp [hm]
  rw [hlen] at i3
  have HL:Hid ((c::upto f N c).getLast?=some y):=hlast
  have HM:Hid (m=(upto f N c).length):=hm
  have HP:Hid (qL [c] (upto f N c)=some (c::upto f N c)):=i6
  have HR:Hid (W.ownsRow w.heap.size 3 1 (.slice (some ⟨g,0,none⟩) (m+1) cap) (m+1) ((c::upto f N c).map encZ)):=by show World.ownsRow _ _ _ _ _ _ _;rw [<-hlen];exact i4
  clear hadd hlast hm hy i4 i6 hcl hlen r5 r2 r3 r4
  have g1:=i1.cell
  have g2:=i2.cell
  have g3:=i3.cell
  have k1:=i1.frozen
  have k2:=i2.frozen
  have x1:IntKind.i64.wrap (((m+1:Nat):Int) - 1)=(m:Int):=by rw [IntKind.wrap_i64];omega
  have x2:(m:Int) < ((m+1:Nat):Int):=by omega
  have x3:(0:Int)<=(m:Int):=by omega
  by_cases hy0:y=0
  ·subst hy0
   have hMW:fo W Tryz.prog 3 3 bm N f:=hM.below hmlt i7
   have hh:=fun nn=>UG nn W bm N f hMW 0 (by decide)
   cases hf0:(f 0).isSome with
   | true=>
     rw [hf0] at hh
     gi_wp2_with (first
      | (gi_at_call 149;refine (hh _).mono ?_;rintro e w5 ⟨rfl,hB5⟩
         have hs5:=hB5.size
         have q1:Boxed w5 w.heap.size 84 (.slice none 0 0):=(hB5.block _ (by omega)).trans i1
         have q2:Boxed w5 (w.heap.size+1) 4 (.bool false):=(hB5.block _ (by omega)).trans i2
         have l1:=q1.cell
         have l2:=q2.cell
         have l3:=q1.frozen
         have l4:=q2.frozen))
     have hK5:w5.heap[(w.heap.size+6)]? =some (.deferred (some [])):=(hB5.block _ (Array.getElem?_eq_some_iff.1 hK).1).trans hK
     have hK':((w5.setCell ⟨w.heap.size,0,none⟩ (.slice none 0 0)).setCell ⟨w.heap.size+1,0,none⟩ (.bool false)).heap[(w.heap.size+6)]? =some (.deferred (some [])):=((KeepsOthers.setCell w5 ⟨w.heap.size,0,none⟩ (.slice none 0 0)).trans (KeepsOthers.setCell _ ⟨w.heap.size+1,0,none⟩ (.bool false))).same _ _ hK5 rfl
     refine ⟨by simp,.inl ⟨_,_,rfl,run_takeDeferred hK',?_⟩⟩
     have z1:=cell_kept ((show Boxed _ w.heap.size 84 (.slice none 0 0) from (Below.heap_setCell _ _ _ _ (by simp)).trans (q1.set _)).cell) (grownBy_putObj' ((w5.setCell ⟨w.heap.size,0,none⟩ (.slice none 0 0)).setCell ⟨w.heap.size+1,0,none⟩ (.bool false)) (w.heap.size+6) (.deferred none)) (fun r e=>by cases e;exact ⟨_,hK',rfl⟩)
     have z2:=cell_kept (((show Boxed _ _ _ _ from (Below.heap_setCell _ _ _ _ (by simp)).trans q2).set (.bool false)).cell) (grownBy_putObj' ((w5.setCell ⟨w.heap.size,0,none⟩ (.slice none 0 0)).setCell ⟨w.heap.size+1,0,none⟩ (.bool false)) (w.heap.size+6) (.deferred none)) (fun r e=>by cases e;exact ⟨_,hK',rfl⟩)
     refine ⟨.tuple #[.slice none 0 0,.bool false],?_,.slice none 0 0,false,rfl,(((i7.trans (hB5.mono i7.size)).setCell (show w.heap.size<=(⟨w.heap.size,0,none⟩:Addr).block from Nat.le_refl _) _).setCell (show w.heap.size<=(⟨w.heap.size+1,0,none⟩:Addr).block from Nat.le_succ _) _).trans (belowK_b (w:=w) (Nat.le_refl _) _ (w.heap.size+6) _ _ (by omega) hK' rfl rfl),?_⟩
     ·have hr:Tryz.f79.results= #[.cell 4 84,.cell 5 4]:=by kernel_rfl
      simp [results,hr,go_sem,z1,z2]
     ·have:rS f N c=none:=by unfold rS;rw [HP.out];simp [hf0,<-Option.not_isSome]
      rw [this];exact ⟨rfl,rfl⟩
   | false=>
     rw [hf0] at hh
     gi_wp2_with (first
      | (gi_at_call 149;refine (hh _).mono ?_;rintro e w5 ⟨rfl,hB5⟩
         have hs5:=hB5.size
         have q1:Boxed w5 w.heap.size 84 (.slice none 0 0):=(hB5.block _ (by omega)).trans i1
         have q2:Boxed w5 (w.heap.size+1) 4 (.bool false):=(hB5.block _ (by omega)).trans i2
         have q3:Boxed w5 (w.heap.size+3) 84 (.slice (some ⟨g,0,none⟩) (m+1) cap):=(hB5.block _ (by omega)).trans i3
         have l1:=q1.cell
         have l2:=q2.cell
         have l3:=q1.frozen
         have l4:=q2.frozen
         have l5:=q3.cell))
     have hK5:w5.heap[(w.heap.size+6)]? =some (.deferred (some [])):=(hB5.block _ (Array.getElem?_eq_some_iff.1 hK).1).trans hK
     have hrow5:=Lb HR.out hB5
     have hK':((w5.setCell ⟨w.heap.size,0,none⟩ (.slice (some ⟨g,0,none⟩) (m+1) cap)).setCell ⟨w.heap.size+1,0,none⟩ (.bool true)).heap[(w.heap.size+6)]? =some (.deferred (some [])):=((KeepsOthers.setCell w5 ⟨w.heap.size,0,none⟩ (.slice (some ⟨g,0,none⟩) (m+1) cap)).trans (KeepsOthers.setCell _ ⟨w.heap.size+1,0,none⟩ (.bool true))).same _ _ hK5 rfl
     refine ⟨by simp,.inl ⟨_,_,rfl,run_takeDeferred hK',?_⟩⟩
     have z1:=cell_kept ((show Boxed _ w.heap.size 84 (.slice (some ⟨g,0,none⟩) (m+1) cap) from (Below.heap_setCell _ _ _ _ (by simp)).trans (q1.set _)).cell) (grownBy_putObj' ((w5.setCell ⟨w.heap.size,0,none⟩ (.slice (some ⟨g,0,none⟩) (m+1) cap)).setCell ⟨w.heap.size+1,0,none⟩ (.bool true)) (w.heap.size+6) (.deferred none)) (fun r e=>by cases e;exact ⟨_,hK',rfl⟩)
     have z2:=cell_kept (((show Boxed _ _ _ _ from (Below.heap_setCell _ _ _ _ (by simp)).trans q2).set (.bool true)).cell) (grownBy_putObj' ((w5.setCell ⟨w.heap.size,0,none⟩ (.slice (some ⟨g,0,none⟩) (m+1) cap)).setCell ⟨w.heap.size+1,0,none⟩ (.bool true)) (w.heap.size+6) (.deferred none)) (fun r e=>by cases e;exact ⟨_,hK',rfl⟩)
     refine ⟨.tuple #[(.slice (some ⟨g,0,none⟩) (m+1) cap),.bool true],?_,(.slice (some ⟨g,0,none⟩) (m+1) cap),true,rfl,(((i7.trans (hB5.mono i7.size)).setCell (show w.heap.size<=(⟨w.heap.size,0,none⟩:Addr).block from Nat.le_refl _) _).setCell (show w.heap.size<=(⟨w.heap.size+1,0,none⟩:Addr).block from Nat.le_succ _) _).trans (belowK_b (w:=w) (Nat.le_refl _) _ (w.heap.size+6) _ _ (by omega) hK' rfl rfl),?_⟩
     ·have hr:Tryz.f79.results= #[.cell 4 84,.cell 5 4]:=by kernel_rfl
      simp [results,hr,go_sem,z1,z2]
     ·have hq:rS f N c=some (c::upto f N c):=by
       unfold rS
       rw [HP.out]
       simp only [HL.out,true_and]
       rw [if_pos (by simpa using hf0)]
      rw [hq]
      refine ⟨rfl,?_⟩
      have hl:(c::upto f N c).length=m+1:=by rw [HM.out];rfl
      rw [hl]
      have hgn:g=w.heap.size+2\/w.heap.size+6<=g:=i5 g rfl
      exact ((hrow5.kept (grownBy_setCell0_a _ w.heap.size _) (.inr (by simp [Value.ownBlock];omega))).kept (grownBy_setCell0_a _ (w.heap.size+1) _) (.inr (by simp [Value.ownBlock];omega))).kept (grownBy_putObj' _ _ _) (.inr fun e=>Nh hrow5 hK5 rfl e)
  ·have hyz:(y !=0)=true:=by simpa using hy0
   gi_wp2
   have hK':((W.setCell ⟨w.heap.size,0,none⟩ (.slice none 0 0)).setCell ⟨w.heap.size+1,0,none⟩ (.bool false)).heap[(w.heap.size+6)]? =some (.deferred (some [])):=((KeepsOthers.setCell W ⟨w.heap.size,0,none⟩ (.slice none 0 0)).trans (KeepsOthers.setCell _ ⟨w.heap.size+1,0,none⟩ (.bool false))).same _ _ hK rfl
   refine ⟨by simp,.inl ⟨_,_,rfl,run_takeDeferred hK',?_⟩⟩
   have z1:=cell_kept ((show Boxed _ w.heap.size 84 (.slice none 0 0) from (Below.heap_setCell _ _ _ _ (by simp)).trans (i1.set _)).cell) (grownBy_putObj' ((W.setCell ⟨w.heap.size,0,none⟩ (.slice none 0 0)).setCell ⟨w.heap.size+1,0,none⟩ (.bool false)) (w.heap.size+6) (.deferred none)) (fun r e=>by cases e;exact ⟨_,hK',rfl⟩)
   have z2:=cell_kept (((show Boxed _ _ _ _ from (Below.heap_setCell _ _ _ _ (by simp)).trans i2).set (.bool false)).cell) (grownBy_putObj' ((W.setCell ⟨w.heap.size,0,none⟩ (.slice none 0 0)).setCell ⟨w.heap.size+1,0,none⟩ (.bool false)) (w.heap.size+6) (.deferred none)) (fun r e=>by cases e;exact ⟨_,hK',rfl⟩)
   refine ⟨.tuple #[.slice none 0 0,.bool false],?_,.slice none 0 0,false,rfl,((i7.setCell (show w.heap.size<=(⟨w.heap.size,0,none⟩:Addr).block from Nat.le_refl _) _).setCell (show w.heap.size<=(⟨w.heap.size+1,0,none⟩:Addr).block from Nat.le_succ _) _).trans (belowK_b (w:=w) (Nat.le_refl _) _ (w.heap.size+6) _ _ (by omega) hK' rfl rfl),?_⟩
   ·have hr:Tryz.f79.results= #[.cell 4 84,.cell 5 4]:=by kernel_rfl
    simp [results,hr,go_sem,z1,z2]
   ·have:rS f N c=none:=by unfold rS;rw [HP.out];simp only [HL.out,Option.some.injEq,hy0,false_and,if_false]
    rw [this];exact ⟨rfl,rfl⟩
 case stop=>
  rintro D cd pre W rfl hpre ⟨rfl,i1,i2,i3,i4⟩ hK
  rw [hs3] at hK ⊢
  have g1:=i1.cell
  have g2:=i2.cell
  gi_wp2
  have hK':(W).heap[(w.heap.size+6)]? =some (.deferred (some [])):=hK
  refine ⟨by simp,.inl ⟨_,_,rfl,run_takeDeferred hK',?_⟩⟩
  have z1:=cell_kept (i1.cell) (grownBy_putObj' (W) (w.heap.size+6) (.deferred none)) (fun r e=>by cases e;exact ⟨_,hK',rfl⟩)
  have z2:=cell_kept (i2.cell) (grownBy_putObj' (W) (w.heap.size+6) (.deferred none)) (fun r e=>by cases e;exact ⟨_,hK',rfl⟩)
  refine ⟨.tuple #[.slice none 0 0,.bool false],?_,.slice none 0 0,false,rfl,(i4).trans (belowK_b (w:=w) (Nat.le_refl _) _ (w.heap.size+6) _ _ (by omega) hK' rfl rfl),?_⟩
  ·have hr:Tryz.f79.results= #[.cell 4 84,.cell 5 4]:=by kernel_rfl
   simp [results,hr,go_sem,z1,z2]
  ·have:rS f N c=none:=by
    obtain ⟨t,ht⟩:=hpre
    unfold rS
    rw [<-ht,H5 _ _ _ i3]
   rw [this];exact ⟨rfl,rfl⟩
end Go.AM
