/- Walk by hand: tree.path, tree.Path: a node's way up. -/
import Derived.Test.YtgoenohknokcmaaGreatHd
open Go.Proofs.Tryz renaming prog->ad,f79->eg,f202->fl
open Go.KeepsOthers renaming setCell->ao,of_grownBy->fc,alloc->fr
open Go.Fence renaming wide->a1
open Go.World renaming size_alloc->a2,putObj_heap_other->bs
open Nat renaming le_refl->bb,reduceAdd->c9,reduceSub->ds,le_succ->eP
open Go renaming Boxed->bd,World->e0
open Go.Value renaming ownBlock->bm
open List renaming cons_append->bx,append_toArray->b5,size_toArray->b7,push_toArray->cb,length_cons->ch,length_nil->cl,nil_append->cv,append_nil->ek,mem_cons->e2
open Array renaming replicate_succ->b0,replicate_zero->b1,getElem?_eq_some_iff->b6
open Go.Lit renaming int->b3
set_option linter.unusedVariables false
set_option linter.unusedSimpArgs false
set_option maxRecDepth 100000
namespace Go.AM
open Go.Proofs Go.RowKit Go.Shelf Go.Maps Go.Sort
 attribute [local go_sem] Oper.semAt_some
set_option maxHeartbeats 2000000 in
theorem YW (nF l b c j N:Nat) (f:Int->Option Int) (p:Int) (M:(b3 .i64 p).wf=true) (H: ∀k v,f k=some v->(b3 .i64 v).wf=true) (J C:List Int->e0->Prop)
  (V: ∀s A B,J s A->(∃v,B=A.setCell ⟨c,0,none⟩ v)->J s B) (X: ∀s A B,C s A->(∃v,B=A.setCell ⟨c,0,none⟩ v)->C s B) (G:b≠c) (K:j≠c)
  (Z: ∀pre x D,pre.length < N->J pre D->YieldAt a1 (nF - 1) ad l #[.int .i64 x] D λe o=>(e= .returned (.bool true)/\J (pre++[x]) o/\Kp3 b c j D o)\/(e= .returned (.bool false)/\C (pre++[x]) o))
  (W:e0) (Q:bd W b 161 (.map (some j))) (b2:bd W c 3 (.int .i64 p)) (T:iy W ad 3 3 j N f) (hN:N<=2 ^ 40) (h0:J [] W):
  CallsIn a1 nF ad 202 #[.func (.yield l) #[] #[],.pointer (some ⟨b,0,none⟩),.pointer (some ⟨c,0,none⟩)] W λe o=>(∃v,e= .returned v)/\
   ((∃ys,ys=upto f N p/\J ys o)\/(∃pre,pre <+:upto f N p/\C pre o)):=by
 have ab: ∀f,a1.fn f:= λ_=>trivial
 have U:a1.depth.isSome=false:=rfl
 have hf:ad.funcs[202]? =some fl:=by kernel_rfl
 have hn:fl.ntmps=26:=by kernel_rfl
 have z:ad.underlying 3=some (.int .i64):=by kernel_rfl
 have g:ad.underlying 161=some (.map 3 3):=by kernel_rfl
 have O: ∀w,(zeroValue 3).run ad w= .ok (.int .i64 0) w:= λw=>by kernel_rfl
 have hlen:=T.len g 3
 have h1:=Q.cell
 have h2:=b2.cell
 refine callsIn_of_wp hf rfl trivial ?_ rfl
 simp only [hn,b7,ch,cl,c9,ds,b0,b1,cb,b5,cv,bx]
 gi_wp2
 gi_loopw [8] (λi wr=> ∃(k:Nat) (pre:List Int) (x:Int),(k<=N/\pre.length=k)/\i= .int .i64 k/\pre++upto f (N - k) x=upto f N p/\(b3 .i64 x).wf=true/\J pre wr/\bd wr b 161 (.map (some j))/\bd wr c 3 (.int .i64 x)/\iy wr ad 3 3 j N f)
  (λi _=>N - (Yg i).toNat)
 case atStart=>exact ⟨0,[],p,⟨Nat.zero_le _,rfl⟩,rfl,by simp,M,h0,Q,b2,T⟩
 case round=>
  obtain ⟨k,pre,x,⟨hk,t⟩,rfl,hu,hx,m,R,S,r⟩:=hrel
  have g1:=R.cell
  have g2:=S.cell
  by_cases ac:k < N
  ·obtain ⟨d,hl,I⟩:=r.look g z z (O _) hx
   have u:N - k=(N - (k+1))+1:=by omega
   cases a:f x with
   | none=>
     rw [a] at hl
     rw [u] at hu
     simp only [upto,a,ek] at hu
     gi_wp2
     first | (refine ⟨λf h=>(by cases h),?_⟩;gi_wp2) | skip
     refine bodyPost_ret (results_none rfl _ _ _) rfl ?_
     exact ⟨⟨_,rfl⟩,.inl ⟨pre,hu,m⟩⟩
   | some y=>
     rw [a] at hl
     obtain rfl:=I y a
     rw [u] at hu
     simp only [upto,a] at hu
     obtain ⟨fn,tmps,assign,body,hy,Y⟩:=Z pre d wr (by omega) m
     have L:=H x d a
     gi_wp2
     refine Y.mono ?_
     rintro e E (⟨rfl,F,n⟩ | ⟨rfl,q⟩)
     ·have q1:bd E b 161 (.map (some j)):=n.1.trans R
      have P:bd E c 3 (.int .i64 x):=n.2.1.trans S
      have q3:iy E ad 3 3 j N f:=r.of_block n.2.2
      have i1:=P.cell
      have i2:=P.frozen
      gi_wp2
      refine ⟨⟨k+1,pre++[d],d,⟨by omega,by simp [t]⟩,by simp,by simp [hu],L,V _ _ _ F ⟨_,rfl⟩,(Below.heap_setCell _ _ _ _ G).trans q1,P.set _,q3.of_block (Below.heap_setCell _ _ _ _ K)⟩,by simp [Yg];omega⟩
     ·gi_wp2
      refine bodyPost_ret (results_none rfl _ _ _) rfl ?_
      exact ⟨⟨_,rfl⟩,.inr ⟨pre++[d],⟨upto f (N - (k+1)) d,by simp [hu]⟩,q⟩⟩
  ·gi_wp2
   obtain rfl:k=N:=by omega
   simp only [Nat.sub_self,upto,ek] at hu
   go_end0
   exact ⟨⟨_,rfl⟩,.inl ⟨pre,hu,m⟩⟩
theorem Z2 (nF:Nat) (w:e0) (i N:Nat) (f:Int->Option Int) (l:iy w ad 3 3 i N f) (c:Int) (b:(b3 .i64 c).wf=true):
  CallsIn a1 nF ad 149 #[.map (some i),.int .i64 c] w λe k=>e= .returned (.bool (f c).isSome)/\Below w.heap.size w k:=by
 have m: ∀f,a1.fn f:= λ_=>trivial
 have j:a1.depth.isSome=false:=rfl
 have hf:ad.funcs[149]? =some Tryz.f149:=by kernel_rfl
 have a:ad.underlying 3=some (.int .i64):=by kernel_rfl
 have h:ad.underlying 161=some (.map 3 3):=by kernel_rfl
 have g: ∀w,(zeroValue 3).run ad w= .ok (.int .i64 0) w:= λw=>by kernel_rfl
 obtain ⟨d,hl,n⟩:=l.look h a a (g _) b
 refine callsIn_of_wp hf rfl trivial ?_ rfl
 have hn:Tryz.f149.ntmps=14:=by kernel_rfl
 simp only [hn,b7,ch,cl,c9,ds,b0,b1,cb,b5,cv,bx]
 gi_wp2
 refine bodyPost_ret (results_tmp rfl _ _ _) rfl ?_
 exact ⟨rfl,Below.refl _ _⟩
def abz (w:e0) (c:Int) (pre:List Int) (W:e0):Prop:=
 (bd W w.heap.size 84 (.slice none 0 0)/\bd W (w.heap.size+1) 4 (.bool false))/\
   (∃v,bd W (w.heap.size+3) 84 v/\W.ownsRow w.heap.size 3 1 v (c::pre).length ((c::pre).map encZ)/\ ∀g,v.ownBlock=some g->g=w.heap.size+2\/w.heap.size+6<=g)/\
   we [c] pre=some (c::pre)/\Below w.heap.size w W/\w.heap.size+6<=W.heap.size
def agh (w:e0) (c:Int) (pre:List Int) (W:e0):Prop:=
 bd W w.heap.size 84 (.slice none 0 0)/\bd W (w.heap.size+1) 4 (.bool false)/\we [c] pre=none/\Below w.heap.size w W
theorem P5 (w:e0) (c:Int) (B:Nat) (n:w.heap.size+6<=B):Hk B (abz w c):=by
 rintro s W m row ⟨⟨i1,i2⟩,⟨v,i3,g,j⟩,l,h,i8⟩ d hr
 have a: ∀b,b < w.heap.size+6->some b≠row:= λb hb e=>by have:=(hr b e.symm).1;omega
 refine ⟨⟨i1.kept d (a _ (by omega)),i2.kept d (a _ (by omega))⟩,⟨v,i3.kept d (a _ (by omega)),g.kept d ?_,j⟩,l,h.grown d h.size (λk e=>by have:=(hr k e).1;omega),Nat.le_trans i8 d.size⟩
 by_cases hv:v.ownBlock=none
 ·exact .inl hv
 ·refine .inr λe=> ?_
  cases row with
  | none=>exact hv e
  | some r=>
    obtain ⟨_,o,i,f⟩:=hr r rfl
    exact Tp g i f e
theorem YN (f:Int->Option Int): ∀(N:Nat) (c:Int),(upto f N c).length<=N
 | 0,c=>by simp [upto]
 | N+1,c=>by
   unfold upto
   split
   ·simp
   ·rename_i x _
    have:=YN f N x
    simp;omega
theorem Ws {f:Int->Option Int} (a: ∀k v,f k=some v->(b3 .i64 v).wf=true): ∀(N:Nat) (c x:Int),x∈upto f N c->(b3 .i64 x).wf=true
 | 0,c,x,h=>by simp [upto] at h
 | N+1,c,x,h=>by
   unfold upto at h
   split at h
   ·simp at h
   ·rename_i y b
    rcases e2.1 h with rfl | h
    ·exact a c _ b
    ·exact Ws a N y x h
theorem acS {f:Int->Option Int} (a: ∀k v,f k=some v->(b3 .i64 v).wf=true) {c:Int} (hc:(b3 .i64 c).wf=true) {N:Nat} (y:Int) (h:(c::upto f N c).getLast?=some y):(b3 .i64 y).wf=true:=by
 have:=List.mem_of_getLast? h
 rcases e2.1 this with rfl | h
 ·exact hc
 ·exact Ws a N c y h
def ad3 (w:e0) (c:Int) (a:Nat) (z:Int):Act:=
 { tmps:= #[.map (some a),.int .i64 c,undef,undef,.pointer (some ⟨w.heap.size,0,none⟩),.pointer (some ⟨w.heap.size+1,0,none⟩),.pointer (some ⟨w.heap.size+3,0,none⟩),.int .i64 z,undef,.int .i64 c,.slice (some ⟨w.heap.size+2,0,none⟩) 1 1,.map (some a),.int .i64 c,
     .func (.func 202) #[] #[.pointer (some ⟨w.heap.size+4,0,none⟩),.pointer (some ⟨w.heap.size+5,0,none⟩)],.int .i64 z,undef,undef,undef,undef,undef,undef,undef,undef,undef,undef,undef,undef,undef,undef,undef,undef,undef,undef,undef,undef,undef],defers:=[] }
set_option maxHeartbeats 4000000 in
theorem ac4 (nF:Nat) (h1:1<=nF) (w:e0) (G N:Nat) (f:Int->Option Int) (hM:iy w ad 3 3 G N f) (hN:N<=50000) (a8: ∀k v,f k=some v->(b3 .i64 v).wf=true) (c:Int) (a7:(b3 .i64 c).wf=true)
  (a6: ∀(W:e0) (B:Nat) (v:Value) (zs:List Int) (x:Int),W.ownsRow B 3 1 v zs.length (zs.map encZ)->zs.length<=100000->Calls ad 148 #[v,.int .i64 x] W λe W'=>e= .returned (.bool (zs.contains x))/\Below W.heap.size W W'):
  CallsIn a1 nF ad 79 #[.map (some G),.int .i64 c] w λe W'=> ∃sv b,e= .returned (.tuple #[sv,.bool b])/\Below w.heap.size w W'/\QS W' w.heap.size (wX f N c) sv b:=by
 have eQ: ∀f,a1.fn f:= λ_=>trivial
 have dl:a1.depth.isSome=false:=rfl
 have hf:ad.funcs[79]? =some eg:=by kernel_rfl
 have hn:eg.ntmps=36:=by kernel_rfl
 have f8:ad.underlying 3=some (.int .i64):=by kernel_rfl
 have c8:ad.underlying 84=some (.slice 3):=by kernel_rfl
 obtain ⟨i0,hi,co,cO,c0⟩:=info_parts (P:=ad) (e:=3) (z:= .int .i64 0) (size:=1) (bytes:=8) (by kernel_rfl)
 have al:=hM.lt
 refine callsIn_of_wp_marks hf rfl trivial ?_ rfl
 simp only [hn,b7,ch,cl,c9,ds,b0,b1,cb,b5,cv,bx]
 gi_wp2_with (first | (gi_at_call 147;refine (Tm _ _ _ _).mono ?_;rintro e w3 ⟨rfl,n⟩))
 rw [<-n]
 have bf:w3.heap.size=w.heap.size+6:=by rw [n];simp
 obtain ⟨H,hH⟩: ∃H,H=w.heap.size:=⟨_,rfl⟩
 have a3:Below w.heap.size w w3:=by rw [n];exact (((((((Below.refl _ w).alloc (bb _) _).alloc (by simp) _).alloc (by simp;omega) _).alloc (by simp;omega) _).alloc (by simp;omega) _).alloc (by simp;omega) _)
 have bA:bd w3 w.heap.size 84 (.slice none 0 0):=by rw [n];exact (((((Boxed.new w 84 _).alloc _).alloc _).alloc _).alloc _).alloc _
 have bB:bd w3 (w.heap.size+1) 4 (.bool false):=by
  rw [n]
  have:=Boxed.new (w.alloc (.cells #[.slice none 0 0] 84)) 4 (.bool false)
  rw [a2] at this
  exact (((this.alloc _).alloc _).alloc _).alloc _
 have bR:w3.heap[w.heap.size+2]? =some (.cells #[.int .i64 c] 3 (0,0)):=by
  rw [n]
  have:=Boxed.new ((w.alloc (.cells #[.slice none 0 0] 84)).alloc (.cells #[.bool false] 4)) 3 (.int .i64 c)
  simp only [a2] at this
  exact ((this.alloc _).alloc _).alloc _
 have bO:bd w3 (w.heap.size+3) 84 (.slice (some ⟨w.heap.size+2,0,none⟩) 1 1):=by
  rw [n]
  have:=Boxed.new (((w.alloc (.cells #[.slice none 0 0] 84)).alloc (.cells #[.bool false] 4)).alloc (.cells #[.int .i64 c] 3)) 84 (.slice (some ⟨w.heap.size+2,0,none⟩) 1 1)
  simp only [a2] at this
  exact (this.alloc _).alloc _
 have bM:bd w3 (w.heap.size+4) 161 (.map (some G)):=by
  rw [n]
  have:=Boxed.new ((((w.alloc (.cells #[.slice none 0 0] 84)).alloc (.cells #[.bool false] 4)).alloc (.cells #[.int .i64 c] 3)).alloc (.cells #[.slice (some ⟨w.heap.size+2,0,none⟩) 1 1] 84)) 161 (.map (some G))
  simp only [a2] at this
  exact this.alloc _
 have bC:bd w3 (w.heap.size+5) 3 (.int .i64 c):=by
  rw [n]
  have:=Boxed.new (((((w.alloc (.cells #[.slice none 0 0] 84)).alloc (.cells #[.bool false] 4)).alloc (.cells #[.int .i64 c] 3)).alloc (.cells #[.slice (some ⟨w.heap.size+2,0,none⟩) 1 1] 84)).alloc (.cells #[.map (some G)] 161)) 3 (.int .i64 c)
  simp only [a2] at this
  exact this
 have ca:iy w3 ad 3 3 G N f:=hM.below al a3
 have bY:w3.ownsRow w.heap.size 3 1 (.slice (some ⟨w.heap.size+2,0,none⟩) 1 1) 1 [.int .i64 c]:=⟨rfl,.inr ⟨_,1,#[.int .i64 c],rfl,by omega,bR,bb _,by simp [maxLen],rfl,rfl⟩⟩
 clear n
 refine yp rfl h1 (gf:=202) (lb:= #[.pointer (some ⟨w.heap.size+4,0,none⟩),.pointer (some ⟨w.heap.size+5,0,none⟩)]) rfl trivial (enters_of (f:=fl) (by kernel_rfl) (by kernel_rfl) (by kernel_rfl))
  (encs:= λx:Int=> #[.int .i64 x]) (R:= λpre _=>pre.length < N) (Kp:=Kp3 (w.heap.size+4) (w.heap.size+5) G) (Chg:= λA B=> ∃v,B=A.setCell ⟨w.heap.size+5,0,none⟩ v) (S:= λxs=>xs=upto f N c) (Sp:= λpre=>pre <+:upto f N c)
  (λl J Jx W hW hJ b4 hY h0=>YW (nF - 1) l (w.heap.size+4) (w.heap.size+5) G N f c a7 a8 J Jx hJ b4 (by omega) (by omega) hY W
    ((hW.block _ (by omega)).trans bM) ((hW.block _ (by omega)).trans bC) (ca.below (by omega) hW) (by omega) h0)
  ?c1 (λh k=>h.trans k) (λW l o o' hl ho hc hw=>⟨bs (by omega),bs (by omega),bs (by omega)⟩) (λ_=>rfl)
  (λpre W=>abz w c pre W)
  (λcd pre W=>cd= .ret/\agh w c pre W)
  ?c2 ?c3 ?c4 ?c5 ⟨⟨bA,bB⟩,⟨_,bO,bY,λg hg=> .inl (by simpa [bm] using hg.symm)⟩,rfl,a3,by omega⟩
  (λpre x a' W=>abz w c pre W/\a'=ad3 w c G x)
  ?c7 ?assign ?body ?done ?stop
 case c1=>rintro A B k o ⟨v,rfl⟩ hk ho hn;rw [Below.heap_setCell _ _ _ _ (by simp;omega)];exact ho
 case c2=>exact P5 w c _ (by omega)
 case c3=>
  rintro cd s W W' row ⟨rfl,i1,i2,i3,p⟩ hg hr
  have a9: ∀b,b < w.heap.size+6->some b≠row:= λb hb e=>by have:=(hr b e.symm).1;omega
  exact ⟨rfl,i1.kept hg (a9 _ (by omega)),i2.kept hg (a9 _ (by omega)),i3,p.grown hg p.size λk e=>by have:=(hr k e).1;omega⟩
 case c4=>
  rintro s X Y ⟨v,rfl⟩ ⟨⟨i1,i2⟩,⟨u,i3,p,i5⟩,i6,E,i8⟩
  refine ⟨⟨(Below.heap_setCell _ _ _ _ (by simp)).trans i1,(Below.heap_setCell _ _ _ _ (by simp)).trans i2⟩,⟨u,(Below.heap_setCell _ _ _ _ (by simp)).trans i3,p.kept (grownBy_setCell0_a X (w.heap.size+5) v) (.inr λe=> ?_),i5⟩,i6,E.setCell (by simp) _,by simpa using i8⟩
  have:=i5 _ e;omega
 case c5=>
  rintro cd s X Y ⟨v,rfl⟩ ⟨rfl,i1,i2,i3,p⟩
  exact ⟨rfl,(Below.heap_setCell _ _ _ _ (by simp)).trans i1,(Below.heap_setCell _ _ _ _ (by simp)).trans i2,i3,p.setCell (by simp) _⟩
 case c7=>exact λx a' s W W' row h hg hr=>⟨P5 w c _ (by omega) s W W' row h.1 hg hr,h.2⟩
 case assign=>
  intro l pre z W K et hR hI I
  gi_wp2
  exact I _ _ ⟨hI,rfl⟩ (KeepsFrom.refl _ _) ⟨rfl,rfl,rfl⟩
 case body=>
  rintro l pre z a' W hlen ⟨⟨⟨i1,i2⟩,⟨u,i3,p,i5⟩,i6,E,i8⟩,rfl⟩
  have g3:=i3.cell
  have f3:=i3.frozen
  have ci:(a1.inRound l).depth.isSome=false:=rfl
  have dq: ∀f,(a1.inRound l).fn f:= λ_=>trivial
  have hc:=a6 W w.heap.size u (c::pre) z p (by simp;omega)
  simp only [ad3]
  by_cases hz:(c::pre).contains z=true
  ·rw [hz] at hc
   gi_wp2_with (first
    | (gi_at_call 148;refine (callsIn_wide.2 hc).mono ?_;rintro e i ⟨rfl,a⟩
       have q1:bd i w.heap.size 84 (.slice none 0 0):=(a.block _ (by omega)).trans i1
       have F:bd i (w.heap.size+1) 4 (.bool false):=(a.block _ (by omega)).trans i2
       have q3:=q1.frozen
       have q4:=q1.cell
       have q5:=F.frozen
       have q6:=F.cell))
   refine ⟨(((vK a).trans (ao _ _ _)).trans (ao _ _ _)).from _,rfl,(Below.heap_setCell _ _ _ _ (by simp)).trans (q1.set _),(show bd _ _ _ _ from (Below.heap_setCell _ _ _ _ (by simp)).trans F).set _,?_,((E.trans (a.mono E.size)).setCell (by simp) _).setCell (by simp) _⟩
   rw [DD,i6]
   simp only [Option.bind_some,hz,if_true]
  ·have br:(c::pre).contains z=false:=by simpa using hz
   rw [br] at hc
   gi_wp2_with (first
    | (gi_at_call 148;refine (callsIn_wide.2 hc).mono ?_;rintro e i ⟨rfl,a⟩
       have q1:bd i w.heap.size 84 (.slice none 0 0):=(a.block _ (by omega)).trans i1
       have F:bd i (w.heap.size+1) 4 (.bool false):=(a.block _ (by omega)).trans i2
       have q3:bd i (w.heap.size+3) 84 u:=(a.block _ (by omega)).trans i3
       have T:=Qv p a
       have bi:=a.size
       have c5:=q3.cell)
    | (gi_at_builtin;refine D7 _ rfl _ _ 84 rfl w.heap.size 3 i0 (.int .i64 0) 1 8 c8 hi co cO c0 rfl (by decide) _ _ _ rfl (T.alloc _) ⟨i.heap.size,0,none⟩ 1 1 [.int .i64 z] rfl rfl (cell_one_new _ _ _) (by simp [Value.oneCell']) (by simp [maxLen];omega) (by simp;omega) (by simp;omega) ?_;intro v' w6 O L a5
       have a4: ∀b,b < w.heap.size+2\/b=w.heap.size+3\/b=w.heap.size+4\/b=w.heap.size+5->b < i.heap.size->w6.heap[b]? =i.heap[b]? := λb hb aB=>(L.block b (by simp;omega) (λe=>by have:=i5 _ e.symm;omega)).trans (Below.heap_alloc _ _ _ aB)
       have r3:bd w6 (w.heap.size+3) 84 u:=(a4 _ (by omega) (by omega)).trans q3
       have c6:=r3.cell
       have f6:=r3.frozen
       have e9:=L.size
       obtain ⟨U,cap',C,rfl,e3,e4,e5,e6,e7,e8⟩: ∃U cap' C,v'= .slice (some ⟨U,0,none⟩) ((c::pre).length+1) cap'/\w.heap.size<=U/\w6.heap[U]? =some (.cells C 3 (0,0))/\(c::pre).length+1<=cap'/\cap'<=maxLen/\C.size=cap'*1/\C.toList.take (((c::pre).length+1)*1)=(c::pre).map encZ++[.int .i64 z]:=by
        rcases O.2 with ⟨_,h0⟩ | h'
        ·exact absurd h0 (by omega)
        ·exact h'
       go_frame))
   have eW:U=w.heap.size+2\/w.heap.size+6<=U:=by
    rcases a5 with e | e
    ·exact i5 U e.symm
    ·simp [bm] at e;omega
   have M: ∀b,b < W.heap.size->(b < w.heap.size+2\/b=w.heap.size+4\/b=w.heap.size+5)->(w6.setCell ⟨w.heap.size+3,0,none⟩ (.slice (some ⟨U,0,none⟩) ((c::pre).length+1) cap')).heap[b]? =W.heap[b]? := λb aB hb=>(Below.heap_setCell _ _ _ _ (by simp;omega)).trans ((a4 b (by omega) (by omega)).trans (a.block b aB))
   refine ⟨?_,⟨M _ (by omega) (by omega),M _ (by omega) (by omega),M _ (by omega) (by omega)⟩,⟨(M _ (by omega) (by omega)).trans i1,(M _ (by omega) (by omega)).trans i2⟩,⟨_,r3.set _,?_,?_⟩,?_,?_,?_⟩
   ·exact ((((vK a).trans (fr _ _)).trans (fc L λj o hj ho=>by
     cases o<;>first | rfl | exact absurd hj.symm (λe=>Tp (T.alloc _) ho rfl e.symm) | exact absurd hj (Tp (T.alloc _) ho rfl))).trans (ao _ _ _)).from _
   ·have hk:=O.kept (grownBy_setCell0_a w6 (w.heap.size+3) (.slice (some ⟨U,0,none⟩) ((c::pre).length+1) cap')) (.inr (by simp [bm];omega))
    simpa using hk
   ·intro g hg
    simp only [bm,Option.some.injEq] at hg
    omega
   ·rw [DD,i6]
    simp only [Option.bind_some,br,Bool.false_eq_true,if_false,bx]
   ·exact (((E.trans (a.mono E.size)).alloc (by have:=E.size;omega) _).grown L (by simp;omega) (λk e=>by have:=i5 k e;omega)).setCell (by simp) _
   ·have ck:=L.size
    rw [a2] at ck
    simp;omega
 case done=>
  rintro D xs W rfl rfl ⟨⟨i1,i2⟩,⟨u,i3,p,i5⟩,i6,E,i8⟩ I
  rw [bf] at I
  obtain ⟨m,hm⟩: ∃m,m=(upto f N c).length:=⟨_,rfl⟩
  obtain ⟨y,hy⟩: ∃y,(c::upto f N c)[m]? =some y:=⟨_,List.getElem?_eq_getElem (by simp [hm])⟩
  have q:(c::upto f N c).getLast?=some y:=by rw [List.getLast?_eq_getElem?,<-hy];congr 1;simp [hm]
  have fa:(b3 .i64 y).wf=true:=acS a8 a7 _ q
  have e1:m < 2 ^ 40:=by
   have:=YN f N c
   omega
  obtain ⟨g,cap,cur,rfl,r0,r1,r2,r3,r4,r5⟩: ∃g cap cur,u= .slice (some ⟨g,0,none⟩) ((c::upto f N c).length) cap/\w.heap.size<=g/\W.heap[g]? =some (.cells cur 3 (0,0))/\(c::upto f N c).length<=cap/\cap<=maxLen/\cur.size=cap*1/\cur.toList.take ((c::upto f N c).length*1)=(c::upto f N c).map encZ:=by
   rcases p.2 with ⟨_,h0⟩ | h'
   ·simp at h0
   ·exact h'
  have ap:=p.cells (g:=g) rfl m (.int .i64 y) (by rw [List.getElem?_map,hy];rfl)
  have ac:(⟨g,0,none⟩:Addr).add m=⟨g,m,none⟩:=by unfold Addr.add;by_cases h:m=0<;>simp [h]
  rw [ac] at ap
  have dd:W.cell? ⟨g,m,none⟩=some (.int .i64 y):=ap
  have hlen:(c::upto f N c).length=m+1:=by simp [hm]
  rw [hlen] at i3
  have HL:Hid ((c::upto f N c).getLast?=some y):=q
  have HM:Hid (m=(upto f N c).length):=hm
  have HP:Hid (we [c] (upto f N c)=some (c::upto f N c)):=i6
  have HR:Hid (W.ownsRow w.heap.size 3 1 (.slice (some ⟨g,0,none⟩) (m+1) cap) (m+1) ((c::upto f N c).map encZ)):=by show World.ownsRow _ _ _ _ _ _ _;rw [<-hlen];exact p
  clear ac q hm hy p i6 ap hlen r5 r2 r3 r4
  have g1:=i1.cell
  have g2:=i2.cell
  have g3:=i3.cell
  have k1:=i1.frozen
  have k2:=i2.frozen
  have x1:IntKind.i64.wrap (((m+1:Nat):Int) - 1)=(m:Int):=by rw [IntKind.wrap_i64];omega
  have x2:(m:Int) < ((m+1:Nat):Int):=by omega
  have x3:(0:Int)<=(m:Int):=by omega
  by_cases aT:y=0
  ·subst aT
   have cc:iy W ad 3 3 G N f:=hM.below al E
   have hh:= λnn=>Z2 nn W G N f cc 0 (by decide)
   cases Z:(f 0).isSome with
   | true=>
     rw [Z] at hh
     gi_wp2_with (first
      | (gi_at_call 149;refine (hh _).mono ?_;rintro e i ⟨rfl,a⟩
         have bi:=a.size
         have q1:bd i w.heap.size 84 (.slice none 0 0):=(a.block _ (by omega)).trans i1
         have F:bd i (w.heap.size+1) 4 (.bool false):=(a.block _ (by omega)).trans i2
         have l1:=q1.cell
         have l2:=F.cell
         have l3:=q1.frozen
         have l4:=F.frozen))
     have V:i.heap[(w.heap.size+6)]? =some (.deferred (some [])):=(a.block _ (b6.1 I).1).trans I
     have d:((i.setCell ⟨w.heap.size,0,none⟩ (.slice none 0 0)).setCell ⟨w.heap.size+1,0,none⟩ (.bool false)).heap[(w.heap.size+6)]? =some (.deferred (some [])):=((ao i ⟨w.heap.size,0,none⟩ (.slice none 0 0)).trans (ao _ ⟨w.heap.size+1,0,none⟩ (.bool false))).same _ _ V rfl
     refine ⟨by simp,.inl ⟨_,_,rfl,run_takeDeferred d,?_⟩⟩
     have z1:=cell_kept ((show bd _ w.heap.size 84 (.slice none 0 0) from (Below.heap_setCell _ _ _ _ (by simp)).trans (q1.set _)).cell) (grownBy_putObj' ((i.setCell ⟨w.heap.size,0,none⟩ (.slice none 0 0)).setCell ⟨w.heap.size+1,0,none⟩ (.bool false)) (w.heap.size+6) (.deferred none)) (λr e=>by cases e;exact ⟨_,d,rfl⟩)
     have z2:=cell_kept (((show bd _ _ _ _ from (Below.heap_setCell _ _ _ _ (by simp)).trans F).set (.bool false)).cell) (grownBy_putObj' ((i.setCell ⟨w.heap.size,0,none⟩ (.slice none 0 0)).setCell ⟨w.heap.size+1,0,none⟩ (.bool false)) (w.heap.size+6) (.deferred none)) (λr e=>by cases e;exact ⟨_,d,rfl⟩)
     refine ⟨.tuple #[.slice none 0 0,.bool false],?_,.slice none 0 0,false,rfl,(((E.trans (a.mono E.size)).setCell (show w.heap.size<=(⟨w.heap.size,0,none⟩:Addr).block from bb _) _).setCell (show w.heap.size<=(⟨w.heap.size+1,0,none⟩:Addr).block from eP _) _).trans (belowK_b (w:=w) (bb _) _ (w.heap.size+6) _ _ (by omega) d rfl rfl),?_⟩
     ·have hr:eg.results= #[.cell 4 84,.cell 5 4]:=by kernel_rfl
      simp [results,hr,go_sem,z1,z2]
     ·have:wX f N c=none:=by unfold wX;rw [HP.out];simp [Z,<-Option.not_isSome]
      rw [this];exact ⟨rfl,rfl⟩
   | false=>
     rw [Z] at hh
     gi_wp2_with (first
      | (gi_at_call 149;refine (hh _).mono ?_;rintro e i ⟨rfl,a⟩
         have bi:=a.size
         have q1:bd i w.heap.size 84 (.slice none 0 0):=(a.block _ (by omega)).trans i1
         have F:bd i (w.heap.size+1) 4 (.bool false):=(a.block _ (by omega)).trans i2
         have q3:bd i (w.heap.size+3) 84 (.slice (some ⟨g,0,none⟩) (m+1) cap):=(a.block _ (by omega)).trans i3
         have l1:=q1.cell
         have l2:=F.cell
         have l3:=q1.frozen
         have l4:=F.frozen
         have l5:=q3.cell))
     have V:i.heap[(w.heap.size+6)]? =some (.deferred (some [])):=(a.block _ (b6.1 I).1).trans I
     have Q:=Qv HR.out a
     have d:((i.setCell ⟨w.heap.size,0,none⟩ (.slice (some ⟨g,0,none⟩) (m+1) cap)).setCell ⟨w.heap.size+1,0,none⟩ (.bool true)).heap[(w.heap.size+6)]? =some (.deferred (some [])):=((ao i ⟨w.heap.size,0,none⟩ (.slice (some ⟨g,0,none⟩) (m+1) cap)).trans (ao _ ⟨w.heap.size+1,0,none⟩ (.bool true))).same _ _ V rfl
     refine ⟨by simp,.inl ⟨_,_,rfl,run_takeDeferred d,?_⟩⟩
     have z1:=cell_kept ((show bd _ w.heap.size 84 (.slice (some ⟨g,0,none⟩) (m+1) cap) from (Below.heap_setCell _ _ _ _ (by simp)).trans (q1.set _)).cell) (grownBy_putObj' ((i.setCell ⟨w.heap.size,0,none⟩ (.slice (some ⟨g,0,none⟩) (m+1) cap)).setCell ⟨w.heap.size+1,0,none⟩ (.bool true)) (w.heap.size+6) (.deferred none)) (λr e=>by cases e;exact ⟨_,d,rfl⟩)
     have z2:=cell_kept (((show bd _ _ _ _ from (Below.heap_setCell _ _ _ _ (by simp)).trans F).set (.bool true)).cell) (grownBy_putObj' ((i.setCell ⟨w.heap.size,0,none⟩ (.slice (some ⟨g,0,none⟩) (m+1) cap)).setCell ⟨w.heap.size+1,0,none⟩ (.bool true)) (w.heap.size+6) (.deferred none)) (λr e=>by cases e;exact ⟨_,d,rfl⟩)
     refine ⟨.tuple #[(.slice (some ⟨g,0,none⟩) (m+1) cap),.bool true],?_,(.slice (some ⟨g,0,none⟩) (m+1) cap),true,rfl,(((E.trans (a.mono E.size)).setCell (show w.heap.size<=(⟨w.heap.size,0,none⟩:Addr).block from bb _) _).setCell (show w.heap.size<=(⟨w.heap.size+1,0,none⟩:Addr).block from eP _) _).trans (belowK_b (w:=w) (bb _) _ (w.heap.size+6) _ _ (by omega) d rfl rfl),?_⟩
     ·have hr:eg.results= #[.cell 4 84,.cell 5 4]:=by kernel_rfl
      simp [results,hr,go_sem,z1,z2]
     ·have hq:wX f N c=some (c::upto f N c):=by
       unfold wX
       rw [HP.out]
       simp only [HL.out,true_and]
       rw [if_pos (by simpa using Z)]
      rw [hq]
      refine ⟨rfl,?_⟩
      have hl:(c::upto f N c).length=m+1:=by rw [HM.out];rfl
      rw [hl]
      have eZ:g=w.heap.size+2\/w.heap.size+6<=g:=i5 g rfl
      exact ((Q.kept (grownBy_setCell0_a _ w.heap.size _) (.inr (by simp [bm];omega))).kept (grownBy_setCell0_a _ (w.heap.size+1) _) (.inr (by simp [bm];omega))).kept (grownBy_putObj' _ _ _) (.inr λe=>Tp Q V rfl e)
  ·have fb:(y !=0)=true:=by simpa using aT
   gi_wp2
   have d:((W.setCell ⟨w.heap.size,0,none⟩ (.slice none 0 0)).setCell ⟨w.heap.size+1,0,none⟩ (.bool false)).heap[(w.heap.size+6)]? =some (.deferred (some [])):=((ao W ⟨w.heap.size,0,none⟩ (.slice none 0 0)).trans (ao _ ⟨w.heap.size+1,0,none⟩ (.bool false))).same _ _ I rfl
   refine ⟨by simp,.inl ⟨_,_,rfl,run_takeDeferred d,?_⟩⟩
   have z1:=cell_kept ((show bd _ w.heap.size 84 (.slice none 0 0) from (Below.heap_setCell _ _ _ _ (by simp)).trans (i1.set _)).cell) (grownBy_putObj' ((W.setCell ⟨w.heap.size,0,none⟩ (.slice none 0 0)).setCell ⟨w.heap.size+1,0,none⟩ (.bool false)) (w.heap.size+6) (.deferred none)) (λr e=>by cases e;exact ⟨_,d,rfl⟩)
   have z2:=cell_kept (((show bd _ _ _ _ from (Below.heap_setCell _ _ _ _ (by simp)).trans i2).set (.bool false)).cell) (grownBy_putObj' ((W.setCell ⟨w.heap.size,0,none⟩ (.slice none 0 0)).setCell ⟨w.heap.size+1,0,none⟩ (.bool false)) (w.heap.size+6) (.deferred none)) (λr e=>by cases e;exact ⟨_,d,rfl⟩)
   refine ⟨.tuple #[.slice none 0 0,.bool false],?_,.slice none 0 0,false,rfl,((E.setCell (show w.heap.size<=(⟨w.heap.size,0,none⟩:Addr).block from bb _) _).setCell (show w.heap.size<=(⟨w.heap.size+1,0,none⟩:Addr).block from eP _) _).trans (belowK_b (w:=w) (bb _) _ (w.heap.size+6) _ _ (by omega) d rfl rfl),?_⟩
   ·have hr:eg.results= #[.cell 4 84,.cell 5 4]:=by kernel_rfl
    simp [results,hr,go_sem,z1,z2]
   ·have:wX f N c=none:=by unfold wX;rw [HP.out];simp only [HL.out,Option.some.injEq,aT,false_and,if_false]
    rw [this];exact ⟨rfl,rfl⟩
 case stop=>
  rintro D cd pre W rfl be ⟨rfl,i1,i2,i3,p⟩ I
  rw [bf] at I ⊢
  have g1:=i1.cell
  have g2:=i2.cell
  gi_wp2
  have d:(W).heap[(w.heap.size+6)]? =some (.deferred (some [])):=I
  refine ⟨by simp,.inl ⟨_,_,rfl,run_takeDeferred d,?_⟩⟩
  have z1:=cell_kept (i1.cell) (grownBy_putObj' (W) (w.heap.size+6) (.deferred none)) (λr e=>by cases e;exact ⟨_,d,rfl⟩)
  have z2:=cell_kept (i2.cell) (grownBy_putObj' (W) (w.heap.size+6) (.deferred none)) (λr e=>by cases e;exact ⟨_,d,rfl⟩)
  refine ⟨.tuple #[.slice none 0 0,.bool false],?_,.slice none 0 0,false,rfl,(p).trans (belowK_b (w:=w) (bb _) _ (w.heap.size+6) _ _ (by omega) d rfl rfl),?_⟩
  ·have hr:eg.results= #[.cell 4 84,.cell 5 4]:=by kernel_rfl
   simp [results,hr,go_sem,z1,z2]
  ·have:wX f N c=none:=by
    obtain ⟨t,ht⟩:=be
    unfold wX
    rw [<-ht,KO _ _ _ i3]
   rw [this];exact ⟨rfl,rfl⟩
end Go.AM
