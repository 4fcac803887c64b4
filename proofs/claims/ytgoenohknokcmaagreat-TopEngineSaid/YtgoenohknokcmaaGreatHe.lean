/- Walks by hand: steps backward. -/
import Derived.Test.YtgoenohknokcmaaGreatHd
import Derived.Test.YtgoenohknokcmaaGreatAe
set_option linter.unusedVariables false
set_option linter.unusedSimpArgs false
set_option maxRecDepth 100000
namespace Go.AM
open Go.Proofs Go.RowKit Go.Shelf
 attribute [local go_sem] Oper.semAt_some J1
theorem QQ (nF:Nat) (w:World) (A:Option Addr) (n c:Nat):
  CallsIn Fence.wide nF Tryz.prog 77 #[.slice A n c] w fun e W'=>e= .returned (.func (.func 146) #[] #[.pointer (some ⟨w.heap.size,0,none⟩)])/\W'=w.alloc (.cells #[.slice A n c] 81):=by
 have hfn: ∀f,Fence.wide.fn f:=fun _=>trivial
 have hdep:Fence.wide.depth.isSome=false:=rfl
 have hf:Tryz.prog.funcs[77]? =some Tryz.f77:=by kernel_rfl
 have hn:Tryz.f77.ntmps=4:=by kernel_rfl
 refine callsIn_of_wp hf rfl trivial ?_ rfl
 simp only [hn,List.size_toArray,List.length_cons,List.length_nil,Nat.reduceAdd,Nat.reduceSub,Array.replicate_succ,Array.replicate_zero,List.push_toArray,List.append_toArray,List.nil_append,List.cons_append]
 gi_wp2
 refine bodyPost_ret (results_tmp rfl _ _ _) rfl ?_
 exact ⟨rfl,rfl⟩
theorem StepV.at_block {s:StepV} {w w':World} {b off:Nat} (h:s.at w b off) (hw:w'.heap[b]? =w.heap[b]?):s.at w' b off:=by
 have: ∀q,w'.cell? ⟨b,q,none⟩=w.cell? ⟨b,q,none⟩:=fun q=>by unfold World.cell?;rw [hw]
 unfold StepV.at at*
 simp only [this]
 exact h
def AV (n k:Nat):List Nat:=((List.range n).drop k).reverse
theorem Lv (n:Nat):AV n n=[]:=by simp [AV]
theorem Lf {n k:Nat} (h:k < n):AV n k=AV n (k+1)++[k]:=by
 unfold AV
 rw [List.drop_eq_getElem_cons (by simpa using h)]
 simp
def XO (n B b:Nat) (w w':World):Prop:=w'.heap[B]? =w.heap[B]? /\(0 < n->w'.heap[b]? =w.heap[b]?)
theorem XO.refl (n B b:Nat) (w:World):XO n B b w w:=⟨rfl,fun _=>rfl⟩
theorem XO.trans {n B b:Nat} {w w1 w2:World} (h:XO n B b w w1) (k:XO n B b w1 w2):XO n B b w w2:=⟨k.1.trans h.1,fun x=>(k.2 x).trans (h.2 x)⟩
theorem Rq {n k j:Nat} (hk:k<=n) (hj:j<=n) (h:AV n j=AV n k):j=k:=by
 have:=congrArg List.length h
 simp [AV] at this
 omega
theorem Yb {w:World} {ok:Nat->Prop} {x:IV} {v:Value} (h:dI w ok [1] [x] v):RV w ok x v:=by
 rcases h with ⟨_,h⟩ | ⟨h,_⟩
 ·exact h
 ·omega
theorem Wk {W:World} {ok:Nat->Prop} {x:IV} {v:Value} (h:RV W ok x v) (s:StepV):bh W ok [[x],s.ivs] [v,.agg s.vals]:=by
 refine ⟨rfl,fun i c u h1 h2=> ?_⟩
 match i with
 | 0=>cases h1;cases h2;exact .inl ⟨x,rfl,h⟩
 | 1=>
   cases h1;cases h2
   refine .inr ⟨(show 2<=12 by decide),s.vals,rfl,rfl,fun i y u h3 h4=> ?_⟩
   match i with
   | 0 | 1 | 2 | 3 | 8 | 9=>cases h3;cases h4;exact .int _ _
   | 4 | 10=>cases h3;cases h4;exact .str _
   | 5 | 11=>cases h3;cases h4;exact .flt _ _
   | 6 | 7=>cases h3;cases h4;exact .bool _
   | n+12=>exact absurd h3 (by simp [StepV.ivs])
 | n+2=>exact absurd h1 (by simp)
set_option maxHeartbeats 2000000 in
theorem Ns (nF l B b off cap:Nat) (A:Option Addr) (ss:List StepV) (hA:0 < ss.length->A=some ⟨b,off,none⟩) (hmax:ss.length<=2 ^ 40) (J Jx:List Nat->World->Prop)
  (hY: ∀pre x W1,(x < ss.length/\pre=AV ss.length (x+1))->J pre W1->YieldAt Fence.wide (nF - 1) Tryz.prog l #[.int .i64 (x:Nat),.agg (ss[x]?.getD default).vals] W1 fun e W'=>(e= .returned (.bool true)/\J (pre++[x]) W'/\XO ss.length B b W1 W')\/(e= .returned (.bool false)/\Jx (pre++[x]) W'))
  (W:World) (hbx:Boxed W B 81 (.slice A ss.length cap)) (hc: ∀(j:Nat) (s:StepV),ss[j]? =some s->s.at W b (off+j*12)) (h0:J [] W):
  CallsIn Fence.wide nF Tryz.prog 146 #[.func (.yield l) #[] #[],.pointer (some ⟨B,0,none⟩)] W fun e W'=>(∃v,e= .returned v)/\((∃ys,ys=AV ss.length 0/\J ys W')\/(∃pre,True/\Jx pre W')):=by
 have hfn: ∀f,Fence.wide.fn f:=fun _=>trivial
 have hdep:Fence.wide.depth.isSome=false:=rfl
 have hf:Tryz.prog.funcs[146]? =some Tryz.f146:=by kernel_rfl
 have hn:Tryz.f146.ntmps=19:=by kernel_rfl
 have ty34:Tryz.prog.underlying 81=some (.slice 149):=by kernel_rfl
 have hcl:=hbx.cell
 refine callsIn_of_wp hf rfl trivial ?_ rfl
 simp only [hn,List.size_toArray,List.length_cons,List.length_nil,Nat.reduceAdd,Nat.reduceSub,Array.replicate_succ,Array.replicate_zero,List.push_toArray,List.append_toArray,List.nil_append,List.cons_append]
 gi_wp2
 gi_loopw [3] (fun i wr=> ∃k:Nat,k<=ss.length/\i= .int .i64 ((k:Int) - 1)/\J (AV ss.length k) wr/\XO ss.length B b W wr)
  (fun i _=>(TH i+1).toNat)
 case atStart=>exact ⟨ss.length,Nat.le_refl _,by simp,by rw [Lv];exact h0,.refl _ _ _ _⟩
 case round=>
  obtain ⟨k,hk,rfl,hJs,hbl⟩:=hrel
  have hbx2:Boxed wr B 81 (.slice A ss.length cap):=hbl.1.trans hbx
  have hcl2:=hbx2.cell
  cases k with
  | zero=>
    gi_wp2
    go_end0
    exact ⟨⟨_,rfl⟩,.inl ⟨_,rfl,hJs⟩⟩
  | succ k=>
    have hk1:((k+1:Nat):Int) - 1=(k:Int):=by omega
    obtain ⟨s,hs⟩: ∃s,ss[k]? =some s:=⟨ss[k],List.getElem?_eq_getElem (by omega)⟩
    obtain ⟨c0,c1,c2,c3,c4,c5,c6,c7,c8,c9,c10,c11⟩:=StepV.at_block (hc k s hs) (hbl.2 (by omega))
    obtain rfl:=hA (by omega)
    obtain ⟨fn,tmps,assign,body,hy,hR⟩:=hY _ k wr ⟨by omega,rfl⟩ hJs
    rw [hs] at hy
    simp only [Option.getD_some,StepV.vals] at hy
    have hkl:k < ss.length:=by omega
    rw [hk1]
    gi_wp2
    refine hR.mono ?_
    rintro e W3 (⟨rfl,hJ3,hk3⟩ | ⟨rfl,hJx3⟩)
    ·gi_wp2
     refine ⟨⟨k,by omega,rfl,by rw [Lf hkl];exact hJ3,hbl.trans hk3⟩,by simp [TH]⟩
    ·gi_wp2
     refine bodyPost_ret (results_none rfl _ _ _) rfl ?_
     exact ⟨⟨_,rfl⟩,.inr ⟨_,trivial,hJx3⟩⟩
def HY (w:World) (ok:Nat->Prop) (f:Nat->IV) (B n:Nat) (pre:List Nat) (W:World):Prop:=
 ∃(k:Nat) (okc:Nat->Prop) (v:Value),pre=AV n k/\k<=n/\Boxed W w.heap.size 37 v/\RV W okc (f k) v/\(∀b,okc b->b < W.heap.size/\((ok b/\b < w.heap.size)\/(B+2<=b)))/\Below w.heap.size w W
def W6 (w:World) (A A2:Option Addr) (n2 c2 cap:Nat) (ss:List StepV) (sb x:Nat):Act:=
 { tmps:= #[.slice A2 n2 c2,.slice A ss.length cap,.pointer (some ⟨w.heap.size,0,none⟩),undef,.slice none 0 0,undef,.pointer (some ⟨sb,0,none⟩),.slice A ss.length cap,.func (.func 146) #[] #[.pointer (some ⟨w.heap.size+1,0,none⟩)],.int .i64 (x:Nat),.agg (ss[x]?.getD default).vals,undef,undef,undef,undef]
   defers:=[] }
theorem HY.own2 (w:World) (ok:Nat->Prop) (f:Nat->IV) (B n:Nat) (hB:w.heap.size+2<=B):C6 B (HY w ok f B n):=by
 rintro s W W' row ⟨k,okc,v,h1,h2,h3,h4,h5,h6⟩ hg hr
 have hne: ∀b,b < B\/B+2<=b->some b≠row:=fun b hb e=>by have:=(hr b e.symm).1;omega
 refine ⟨k,okc,v,h1,h2,h3.kept hg (hne _ (.inl (by omega))),h4.keeps ⟨fun b hb=> ?_,fun _ h=>h⟩,fun b hb=> ?_,h6.grown hg h6.size fun k e=>by have:=(hr k e).1;omega⟩
 ·obtain ⟨g1,g2⟩:=h5 b hb
  exact hg.block b g1 (hne b (by rcases g2 with g | g<;>omega))
 ·obtain ⟨g1,g2⟩:=h5 b hb
  exact ⟨Nat.lt_of_lt_of_le g1 hg.size,g2⟩
set_option maxHeartbeats 2000000 in
theorem Yg (U:List (List IV)->Option (List IV)) (hU: ∀w ok,PureAt Tryz.prog 72 [] [1] U w ok) (hE:Enters Tryz.prog 72)
  (nF:Nat) (h1:1<=nF) (w:World) (ok:Nat->Prop) (hok: ∀b,ok b->b < w.heap.size) (A:Option Addr) (b off cap:Nat) (ss:List StepV) (hA:0 < ss.length->A=some ⟨b,off,none⟩) (hmax:ss.length<=2 ^ 40) (hb:0 < ss.length->b < w.heap.size)
  (hc: ∀(j:Nat) (s:StepV),ss[j]? =some s->s.at w b (off+j*12)) (f:Nat->IV) (hf0: ∀(k:Nat) (s:StepV),ss[k]? =some s->U [[f (k+1)],s.ivs]=some [f k]) (A2:Option Addr) (n2 c2:Nat) (hv:RV w ok (f ss.length) (.slice A2 n2 c2)) (hsl: ∀k v w' ok',k<=ss.length->RV w' ok' (f k) v-> ∃A n c,v= .slice A n c):
  CallsIn Fence.wide nF Tryz.prog 37 #[.slice A2 n2 c2,.slice A ss.length cap] w fun e W'=> ∃v,e= .returned v/\Below w.heap.size w W'/\RV W' (sj w ok W') (f 0) v:=by
 have hfn: ∀f,Fence.wide.fn f:=fun _=>trivial
 have hdep:Fence.wide.depth.isSome=false:=rfl
 have hf:Tryz.prog.funcs[37]? =some Tryz.f37:=by kernel_rfl
 have hn:Tryz.f37.ntmps=15:=by kernel_rfl
 refine callsIn_of_wp_marks hf rfl trivial ?_ rfl
 simp only [hn,List.size_toArray,List.length_cons,List.length_nil,Nat.reduceAdd,Nat.reduceSub,Array.replicate_succ,Array.replicate_zero,List.push_toArray,List.append_toArray,List.nil_append,List.cons_append]
 gi_wp2_with (first | (gi_at_call 77;refine (QQ _ _ _ _ _).mono ?_;rintro e w2 ⟨rfl,hw2⟩))
 have hw5:=hw2
 obtain ⟨w4,hw4⟩: ∃w4,w4=(w.alloc (.cells #[.slice A2 n2 c2] 37)).alloc (.cells #[.slice A ss.length cap] 81):=⟨_,rfl⟩
 rw [<-hw4]
 have hs4:w4.heap.size=w.heap.size+2:=by rw [hw4];simp
 have hB4:Below w.heap.size w w4:=by rw [hw4];exact ((Below.refl _ w).alloc (Nat.le_refl _) _).alloc (by simp) _
 have bl4:Boxed w4 w.heap.size 37 (.slice A2 n2 c2):=by rw [hw4];exact (Boxed.new w 37 _).alloc _
 have bs4:Boxed w4 (w.heap.size+1) 81 (.slice A ss.length cap):=by rw [hw4];have:=Boxed.new (w.alloc (.cells #[.slice A2 n2 c2] 37)) 81 (.slice A ss.length cap);simpa using this
 have hc4: ∀(j:Nat) (s:StepV),ss[j]? =some s->s.at w4 b (off+j*12):=fun j s hj=>StepV.at_block (hc j s hj) (hB4.block _ (hb (by have:=(List.getElem?_eq_some_iff.1 hj).1;omega)))
 have hv4:RV w4 ok (f ss.length) (.slice A2 n2 c2):=hv.keeps ⟨fun b hb=>hB4.block b (hok b hb),fun _ h=>h⟩
 refine s6 rfl h1 (gf:=146) (lb:= #[.pointer (some ⟨w.heap.size+1,0,none⟩)]) rfl trivial (enters_of (f:=Tryz.f146) (by kernel_rfl) (by kernel_rfl) (by kernel_rfl))
  (encs:=fun x:Nat=> #[.int .i64 (x:Nat),.agg (ss[x]?.getD default).vals]) (R:=fun pre x=>x < ss.length/\pre=AV ss.length (x+1)) (Kp:=XO ss.length (w.heap.size+1) b) (Chg:=fun A B=>False) (S:=fun xs=>xs=AV ss.length 0) (Sp:=fun _=>True)
  (fun l J Jx W hW hJ hJx hY h0=>Ns (nF - 1) l (w.heap.size+1) b off cap A ss hA hmax J Jx hY W
    ((hW.block _ (by omega)).trans bs4) (fun j s hj=>StepV.at_block (hc4 j s hj) (hW.block _ (by have:=hb (by have:=(List.getElem?_eq_some_iff.1 hj).1;omega);omega))) h0)
  (fun _ _ _ _ h=>h.elim) (fun h k=>h.trans k) (fun W l o o' hl ho _ _=>⟨World.putObj_heap_other (by omega),fun h=>World.putObj_heap_other (by have:=hb h;omega)⟩) (fun _=>rfl)
  (fun pre W=>HY w ok f w4.heap.size ss.length pre W) (fun c pre W=>False) ?c2 ?c3 (fun _ _ _ h=>h.elim) (fun _ _ _ _ h=>h.elim) ?c6
  (fun pre x a' W=> ∃sb,((HY w ok f w4.heap.size ss.length pre W/\(w4.heap.size+2<=sb/\W.heap[sb]? =some (.cells (ss[x]?.getD default).vals 149 (0,0))))/\a'=W6 w A A2 n2 c2 cap ss sb x))
  ?c7 ?assign ?body ?done (fun _ _ _ _ _ _ h=>h.elim)
 case c2=>exact HY.own2 _ _ _ _ _ (by omega)
 case c3=>exact fun c s W W' row h _ _=>h
 case c6=>exact ⟨ss.length,ok,_,(Lv _).symm,Nat.le_refl _,bl4,hv4,fun b hb=>⟨by have:=hok b hb;omega,.inl ⟨hb,hok b hb⟩⟩,hB4⟩
 case c7=>
  intro x a'
  rintro s W W' row ⟨sb,⟨h1,h2,h3⟩,h4⟩ hg hr
  refine ⟨sb,⟨HY.own2 _ _ _ _ _ (by omega) s W W' row h1 hg hr,h2,?_⟩,h4⟩
  rw [<-h3]
  exact hg.block sb (Array.getElem?_eq_some_iff.1 h3).1 fun e=>by have:=(hr sb e.symm).1;omega
 case assign=>
  rintro l pre x W K hWs ⟨hx,rfl⟩ hI hK
  obtain ⟨s,hs⟩: ∃s,ss[x]? =some s:=⟨ss[x],List.getElem?_eq_getElem hx⟩
  simp only [W6,hs,Option.getD_some,StepV.vals] at hK ⊢
  gi_wp2
  refine hK _ _ ⟨W.heap.size,⟨(HY.own2 _ _ _ _ _ (by omega)).alloc _ hI,?_,?_⟩,rfl⟩ ?_ ?_
  ·omega
  ·exact World.alloc_heap_new W _
  ·exact ⟨by simp,fun k o _ ho _=>(Below.heap_alloc _ _ _ (Array.getElem?_eq_some_iff.1 ho).1).trans ho⟩
  ·exact ⟨Below.heap_alloc _ _ _ (by omega),fun h=>Below.heap_alloc _ _ _ (by have:=hb h;omega)⟩
 case body=>
  rintro l pre x a' W ⟨hx,rfl⟩ ⟨sb,⟨hI,h2,h3⟩,rfl⟩
  obtain ⟨s,hs⟩: ∃s,ss[x]? =some s:=⟨ss[x],List.getElem?_eq_getElem hx⟩
  obtain ⟨k,okc,v,q1,q2,q3,q4,q5,q6⟩:=hI
  obtain rfl:k=x+1:=Rq (by omega) q2 q1.symm
  obtain ⟨A',n',c',rfl⟩:=hsl (x+1) v W okc hx q4
  have hsb:sb < W.heap.size:=(Array.getElem?_eq_some_iff.1 h3).1
  simp only [W6,hs,Option.getD_some,StepV.vals] at h3 ⊢
  have hcell: ∀(q:Nat) (u:Value),s.vals[q]? =some u->W.cell? ⟨sb,q,none⟩=some u:=fun q u hq=>by unfold World.cell?;rw [h3];exact hq
  have d0:W.cell? ⟨sb,0,none⟩=some (.int .i64 s.i0):=hcell 0 _ rfl
  have d1:W.cell? ⟨sb,1,none⟩=some (.int .i64 s.i1):=hcell 1 _ rfl
  have d2:W.cell? ⟨sb,2,none⟩=some (.int .i64 s.i2):=hcell 2 _ rfl
  have d3:W.cell? ⟨sb,3,none⟩=some (.int .i64 s.i3):=hcell 3 _ rfl
  have d4:W.cell? ⟨sb,4,none⟩=some (.string s.s4):=hcell 4 _ rfl
  have d5:W.cell? ⟨sb,5,none⟩=some (.float .f64 s.f5):=hcell 5 _ rfl
  have d6:W.cell? ⟨sb,6,none⟩=some (.bool s.b6):=hcell 6 _ rfl
  have d7:W.cell? ⟨sb,7,none⟩=some (.bool s.b7):=hcell 7 _ rfl
  have d8:W.cell? ⟨sb,8,none⟩=some (.int .i64 s.i8):=hcell 8 _ rfl
  have d9:W.cell? ⟨sb,9,none⟩=some (.int .i64 s.i9):=hcell 9 _ rfl
  have d10:W.cell? ⟨sb,10,none⟩=some (.string s.s10):=hcell 10 _ rfl
  have d11:W.cell? ⟨sb,11,none⟩=some (.float .f64 s.f11):=hcell 11 _ rfl
  have g1:=q3.cell
  have g2:=q3.frozen
  have hcall:=hU W okc W okc [[f (x+1)],s.ivs] [.slice A' n' c',.agg s.vals] _ (.refl _ _) (fun b hb=>(q5 b hb).1) (Wk q4 s) (hf0 x s hs)
  have hdep2:(Fence.wide.inRound l).depth.isSome=false:=rfl
  have hfn2: ∀f,(Fence.wide.inRound l).fn f:=fun _=>trivial
  gi_wp2_with (first | (gi_at_call 72;refine (callsIn_wide.2 hcall).mono ?_;rintro e w5 ⟨v5,rfl,hB5,hr5⟩;have hr6:=Yb hr5;obtain ⟨A5,n5,c5,rfl⟩:=hsl x v5 w5 _ (by omega) hr6;have q7:Boxed w5 w.heap.size 37 (.slice A' n' c'):=(hB5.block _ (by omega)).trans q3;have g3:=q7.cell;have g4:=q7.frozen))
  have hs5:=hB5.size
  refine ⟨⟨by simpa using hs5,fun k o hk ho hn=> ?_⟩,⟨?_,fun h=> ?_⟩,⟨x,sj W okc w5,_,(Lf hx).symm,by omega,q7.set _,hr6.keeps ⟨fun j hj=> ?_,fun _ h=>h⟩,fun j hj=> ?_,(q6.trans (hB5.mono q6.size)).setCell (by simp) _⟩⟩
  ·rw [Below.heap_setCell _ _ _ _ (by simp;omega),hB5.block _ (Array.getElem?_eq_some_iff.1 ho).1];exact ho
  ·rw [Below.heap_setCell _ _ _ _ (by simp),hB5.block _ (by omega)]
  ·have:=hb h
   rw [Below.heap_setCell _ _ _ _ (by simp;omega),hB5.block _ (by omega)]
  ·refine Below.heap_setCell _ _ _ _ ?_
   rcases hj with hj | ⟨h7,h8⟩
   ·have:=(q5 j hj).2;simp;omega
   ·simp;omega
  ·rw [World.size_setCell]
   rcases hj with hj | ⟨h7,h8⟩
   ·have:=q5 j hj;exact ⟨by omega,this.2⟩
   ·exact ⟨h8,.inr (by omega)⟩
 case done=>
  rintro D xs W hD rfl ⟨k,okc,v,q1,q2,q3,q4,q5,q6⟩ hK
  have hD2:D=w.heap.size+1+1:=by omega
  subst hD2
  obtain rfl:k=0:=Rq (Nat.zero_le _) q2 q1.symm
  obtain ⟨A5,n5,c5,rfl⟩:=hsl 0 v W _ (Nat.zero_le _) q4
  have g1:=q3.cell
  gi_wp2
  refine ⟨by simp,.inl ⟨_,_,rfl,run_takeDeferred hK,?_⟩⟩
  refine ⟨_,results_tmp rfl _ _ _,_,rfl,q6.trans (belowK_b (w:=w) (Nat.le_refl _) W _ _ _ (by omega) hK rfl rfl),q4.keeps ⟨fun j hj=>World.putObj_heap_other ?_,fun j hj=> ?_⟩⟩
  ·have:=q5 j hj
   omega
  ·have:=q5 j hj
   rcases this.2 with h | h
   ·exact .inl h.1
   ·exact .inr ⟨by omega,by simpa using this.1⟩
end Go.AM
