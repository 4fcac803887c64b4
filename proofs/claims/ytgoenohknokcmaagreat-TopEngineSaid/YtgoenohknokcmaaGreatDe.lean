/- Walks by hand: numbers as how far each is from the one ahead. -/
import Derived.Test.YtgoenohknokcmaaGreatAe
import Derived.Test.YtgoenohknokcmaaGreatBd
set_option linter.unusedVariables false
set_option linter.unusedSimpArgs false
set_option maxRecDepth 100000
namespace Go.AM
open Go.Proofs Go.RowKit Go.Shelf Go.Lib
 attribute [local go_sem] Oper.semAt_some
theorem Vw (nF:Nat) (w:World) (A:Option Addr) (n c:Nat):
  CallsIn Fence.wide nF Tryz.prog 235 #[.slice A n c] w fun e W'=>e= .returned (.func (.func 254) #[] #[.pointer (some ⟨w.heap.size,0,none⟩)])/\W'=w.alloc (.cells #[.slice A n c] 84):=by
 have hfn: ∀f,Fence.wide.fn f:=fun _=>trivial
 have hdep:Fence.wide.depth.isSome=false:=rfl
 have hf:Tryz.prog.funcs[235]? =some Tryz.f235:=by kernel_rfl
 have hn:Tryz.f235.ntmps=4:=by kernel_rfl
 refine callsIn_of_wp hf rfl trivial ?_ rfl
 simp only [hn,List.size_toArray,List.length_cons,List.length_nil,Nat.reduceAdd,Nat.reduceSub,Array.replicate_succ,Array.replicate_zero,List.push_toArray,List.append_toArray,List.nil_append,List.cons_append]
 gi_wp2
 refine bodyPost_ret (results_tmp rfl _ _ _) rfl ?_
 exact ⟨rfl,rfl⟩
def zW (W:World) (b off:Nat) (ns:List Int):Prop:= ∀(j:Nat) (n:Int),ns[j]? =some n->W.cell? ⟨b,off+j,none⟩=some (.int .i64 n)
theorem zW.block {W W':World} {b off:Nat} {ns:List Int} (h:zW W b off ns) (hb:0 < ns.length->W'.heap[b]? =W.heap[b]?):zW W' b off ns:=fun j n hj=>by
 have:=h j n hj
 have hlt:=(List.getElem?_eq_some_iff.1 hj).1
 unfold World.cell? at*
 rw [hb (by omega)]
 exact this
set_option maxHeartbeats 2000000 in
theorem SX (nF l B b off cap:Nat) (A:Option Addr) (ns:List Int) (hA:0 < ns.length->A=some ⟨b,off,none⟩) (hmax:ns.length<=2 ^ 40) (J Jx:List Nat->World->Prop)
  (hY: ∀pre x W1,(x < ns.length/\pre=List.range x)->J pre W1->YieldAt Fence.wide (nF - 1) Tryz.prog l #[.int .i64 (Zc ns x)] W1 fun e W'=>(e= .returned (.bool true)/\J (pre++[x]) W'/\XZ ns.length B b W1 W')\/(e= .returned (.bool false)/\Jx (pre++[x]) W'))
  (W:World) (hbx:Boxed W B 84 (.slice A ns.length cap)) (hc:zW W b off ns) (h0:J [] W):
  CallsIn Fence.wide nF Tryz.prog 254 #[.func (.yield l) #[] #[],.pointer (some ⟨B,0,none⟩)] W fun e W'=>(∃v,e= .returned v)/\((∃ys,ys=List.range ns.length/\J ys W')\/(∃pre,True/\Jx pre W')):=by
 have hfn: ∀f,Fence.wide.fn f:=fun _=>trivial
 have hdep:Fence.wide.depth.isSome=false:=rfl
 have hf:Tryz.prog.funcs[254]? =some Tryz.f254:=by kernel_rfl
 have hn:Tryz.f254.ntmps=20:=by kernel_rfl
 have ty34:Tryz.prog.underlying 84=some (.slice 3):=by kernel_rfl
 have hcl:=hbx.cell
 refine callsIn_of_wp hf rfl trivial ?_ rfl
 simp only [hn,List.size_toArray,List.length_cons,List.length_nil,Nat.reduceAdd,Nat.reduceSub,Array.replicate_succ,Array.replicate_zero,List.push_toArray,List.append_toArray,List.nil_append,List.cons_append]
 gi_wp2
 gi_loopw [8,3] (fun i last wr=> ∃k:Nat,k<=ns.length/\i= .int .i64 (k:Int)/\last= .int .i64 ((0::ns).getD k 0)/\J (List.range k) wr/\XZ ns.length B b W wr)
  (fun i _ _=>ns.length - (TH i).toNat)
 case atStart=>exact ⟨0,Nat.zero_le _,rfl,rfl,h0,.refl _ _ _ _⟩
 case round=>
  obtain ⟨k,hk,rfl,rfl,hJs,hbl⟩:=hrel
  by_cases hkn:k=ns.length
  ·subst hkn
   gi_wp2
   go_end0
   exact ⟨⟨_,rfl⟩,.inl ⟨_,rfl,hJs⟩⟩
  ·have hlt:k < ns.length:=by omega
   obtain ⟨s,hs⟩: ∃s,ns[k]? =some s:=⟨ns[k],List.getElem?_eq_getElem hlt⟩
   have c0:wr.cell? ⟨b,off+k,none⟩=some (.int .i64 s):=(hc.block hbl.2) k s hs
   have hgs:ns.getD k 0=s:=by rw [List.getD_eq_getElem?_getD,hs];rfl
   have hgn:(0::ns).getD (k+1) 0=s:=by rw [List.getD_cons_succ];exact hgs
   obtain rfl:=hA (by omega)
   obtain ⟨fn,tmps,assign,body,hy,hR⟩:=hY _ k wr ⟨hlt,rfl⟩ hJs
   simp only [Zc,hgs] at hy hR
   obtain ⟨pv,hpv⟩: ∃pv,(0::ns).getD k 0=pv:=⟨_,rfl⟩
   rw [hpv] at hy ⊢
   obtain ⟨dd,hdd⟩: ∃dd,IntKind.i64.wrap (s - pv)=dd:=⟨_,rfl⟩
   rw [hdd] at hy
   have hdd2:wrap64 (s - pv)=dd:=by unfold wrap64;rw [<-hdd,IntKind.wrap_i64]
   have hlt2:(k:Int) < (ns.length:Int):=by omega
   have hw1:IntKind.i64.wrap ((k:Int)+1)=((k+1:Nat):Int):=by rw [IntKind.wrap_i64];omega
   have hb1:(0:Int)<=(k:Int):=by omega
   have htn:((k:Int)).toNat=k:=by omega
   gi_wp2
   refine hR.mono ?_
   rintro e W3 (⟨rfl,hJ3,hk3⟩ | ⟨rfl,hJx3⟩)
   ·gi_wp2
    refine ⟨⟨k+1,by omega,by simp,by rw [hgn],by rw [List.range_succ];exact hJ3,hbl.trans hk3⟩,by simp [TH];omega⟩
   ·gi_wp2
    refine bodyPost_ret (results_none rfl _ _ _) rfl ?_
    exact ⟨⟨_,rfl⟩,.inr ⟨_,trivial,hJx3⟩⟩
def Vj (w:World) (f:Nat->ByteArray) (B n:Nat) (pre:List Nat) (W:World):Prop:=
 ∃(k:Nat) (p u:Value),pre=List.range k/\k<=n/\BdAt W 123 5 w.heap.size p u (f k).size (strCells (f k))/\(∀j,u.ownBlock=some j->B+2<=j)/\Below w.heap.size w W
def aap (w:World) (A:Option Addr) (n c:Nat) (d:Int):Act:=
 { tmps:= #[.slice A n c,undef,.string { data:= #[] },.pointer (some ⟨w.heap.size,0,none⟩),.int .i64 d,.slice A n c,.func (.func 254) #[] #[.pointer (some ⟨w.heap.size+1,0,none⟩)],.int .i64 d,undef,undef,undef,undef,undef],
   defers:=[] }
theorem Vj.own2 (w:World) (f:Nat->ByteArray) (B n:Nat) (hB:w.heap.size+2<=B):C6 B (Vj w f B n):=by
 rintro s W W' row ⟨k,p,u,h1,h2,h3,h4,h5⟩ hg hr
 have hne: ∀b,b < B\/B+2<=b->some b≠row:=fun b hb e=>by have:=(hr b e.symm).1;omega
 refine ⟨k,p,u,h1,h2,h3.kept hg (hne _ (.inl (by omega))) ?_,h4,h5.grown hg h5.size fun k e=>by have:=(hr k e).1;omega⟩
 cases hu:u.ownBlock with
 | none=>exact .inl rfl
 | some j=>exact .inr (hne j (.inr (h4 j hu)))
theorem TM {F:Fence} {g:Nat} {U:List (List IV)->Option (List IV)} (hU: ∀w ok,PureAt Tryz.prog g [] [1] U w ok) {W:World} {x:IV} {v:Value} (hx:RV W (fun _=>False) x v) {r:List IV} (hr:U [[x]]=some r):
  Calls Tryz.prog g #[v] W fun e W'=> ∃v',e= .returned v'/\Below W.heap.size W W'/\dI W' (sj W (fun _=>False) W') [1] r v':=by
 have:=hU W (fun _=>False) W (fun _=>False) [[x]] [v] r (.refl _ _) (fun b h=>h.elim) ⟨rfl,fun i c u h1 h2=>by
  match i with
  | 0=>cases h1;cases h2;exact .inl ⟨x,rfl,hx⟩
  | n+1=>exact absurd h1 (by simp)⟩ hr
 exact this
theorem L0 {w:World} {ok:Nat->Prop} {r:List IV} {v:Value} (h:dI w ok [1] r v):RV w ok (nth r 0) v:=by
 rcases h with ⟨_,h⟩ | ⟨h,_⟩
 ·exact h
 ·omega
set_option maxHeartbeats 4000000 in
theorem Zb (Zig Put:List (List IV)->Option (List IV)) (hZ: ∀w ok,PureAt Tryz.prog 236 [] [1] Zig w ok) (hP: ∀w ok,PureAt Tryz.prog 60 [] [1] Put w ok)
  (hZs: ∀x r,Zig [[x]]=some r-> ∀y∈r,y.scalar=true) (eZ:Enters Tryz.prog 236) (eP:Enters Tryz.prog 60)
  (nF:Nat) (h1:1<=nF) (w:World) (A:Option Addr) (b off cap:Nat) (ns:List Int) (hA:0 < ns.length->A=some ⟨b,off,none⟩) (hmax:ns.length<=2 ^ 40) (hb:0 < ns.length->b < w.heap.size) (hc:zW w b off ns)
  (f:Nat->ByteArray) (hf0:f 0=⟨#[]⟩) (hstep: ∀k,k < ns.length-> ∃z q s,Zig [[.int .i64 (Zc ns k)]]=some z/\Put [[nth z 0]]=some q/\nth q 0= .str s/\(f k).size+s.size<=140737488355328/\f (k+1)=f k++s):
  CallsIn Fence.wide nF Tryz.prog 185 #[.slice A ns.length cap] w fun e W'=>e= .returned (.string (f ns.length))/\Below w.heap.size w W':=by
 have hfn: ∀f,Fence.wide.fn f:=fun _=>trivial
 have hdep:Fence.wide.depth.isSome=false:=rfl
 have hf:Tryz.prog.funcs[185]? =some Tryz.f185:=by kernel_rfl
 have hn:Tryz.f185.ntmps=13:=by kernel_rfl
 refine callsIn_of_wp_marks hf rfl trivial ?_ rfl
 simp only [hn,List.size_toArray,List.length_cons,List.length_nil,Nat.reduceAdd,Nat.reduceSub,Array.replicate_succ,Array.replicate_zero,List.push_toArray,List.append_toArray,List.nil_append,List.cons_append]
 gi_wp2_with (first | (gi_at_call 235;refine (Vw _ _ _ _ _).mono ?_;rintro e w2 ⟨rfl,hw2⟩))
 have hw5:=hw2
 obtain ⟨w4,hw4⟩: ∃w4,w4=(w.alloc (.cells #[.pointer none,.slice none 0 0] 123)).alloc (.cells #[.slice A ns.length cap] 84):=⟨_,rfl⟩
 rw [<-hw4]
 have hs4:w4.heap.size=w.heap.size+2:=by rw [hw4];simp
 have hB4:Below w.heap.size w w4:=by rw [hw4];exact ((Below.refl _ w).alloc (Nat.le_refl _) _).alloc (by simp) _
 have bs4:Boxed w4 (w.heap.size+1) 84 (.slice A ns.length cap):=by rw [hw4];have:=Boxed.new (w.alloc (.cells #[.pointer none,.slice none 0 0] 123)) 84 (.slice A ns.length cap);simpa using this
 have hbd4:BdAt w4 123 5 w.heap.size (.pointer none) (.slice none 0 0) (f 0).size (strCells (f 0)):=by
  rw [hw4,hf0]
  exact BdAt.alloc ⟨World.alloc_heap_new w _,.inl rfl,World.ownsRow_nil _ _ _ _,by simp [Value.ownBlock]⟩ _
 have hc4:zW w4 b off ns:=hc.block fun h=>hB4.block _ (hb h)
 refine s6 rfl h1 (gf:=254) (lb:= #[.pointer (some ⟨w.heap.size+1,0,none⟩)]) rfl trivial (enters_of (f:=Tryz.f254) (by kernel_rfl) (by kernel_rfl) (by kernel_rfl))
  (encs:=fun x:Nat=> #[.int .i64 (Zc ns x)]) (R:=fun pre x=>x < ns.length/\pre=List.range x) (Kp:=XZ ns.length (w.heap.size+1) b) (Chg:=fun A B=>False) (S:=fun xs=>xs=List.range ns.length) (Sp:=fun _=>True)
  (fun l J Jx W hW hJ hJx hY h0=>SX (nF - 1) l (w.heap.size+1) b off cap A ns hA hmax J Jx hY W
    ((hW.block _ (by omega)).trans bs4) (hc4.block fun h=>hW.block _ (by have:=hb h;omega)) h0)
  (fun _ _ _ _ h=>h.elim) (fun h k=>h.trans k) (fun W l o o' hl ho _ _=>⟨World.putObj_heap_other (by omega),fun h=>World.putObj_heap_other (by have:=hb h;omega)⟩) (fun _=>rfl)
  (fun pre W=>Vj w f w4.heap.size ns.length pre W) (fun c pre W=>False) ?c2 ?c3 (fun _ _ _ h=>h.elim) (fun _ _ _ _ h=>h.elim) ?c6
  (fun pre x a' W=>(Vj w f w4.heap.size ns.length pre W/\w4.heap.size+2<=W.heap.size)/\a'=aap w A ns.length cap (Zc ns x))
  ?c7 ?assign ?body ?done (fun _ _ _ _ _ _ h=>h.elim)
 case c2=>exact Vj.own2 _ _ _ _ (by omega)
 case c3=>exact fun c s W W' row h _ _=>h
 case c6=>exact ⟨0,_,_,rfl,Nat.zero_le _,hbd4,fun j hj=>by simp [Value.ownBlock] at hj,hB4⟩
 case c7=>
  intro x a'
  rintro s W W' row ⟨⟨h1,h2⟩,h4⟩ hg hr
  exact ⟨⟨Vj.own2 _ _ _ _ (by omega) s W W' row h1 hg hr,Nat.le_trans h2 hg.size⟩,h4⟩
 case assign=>
  rintro l pre x W K hWs ⟨hx,rfl⟩ hI hK
  simp only [aap] at hK ⊢
  gi_wp2
  exact hK _ _ ⟨⟨hI,hWs⟩,rfl⟩ ⟨Nat.le_refl _,fun k o _ ho _=>ho⟩ (.refl _ _ _ _)
 case body=>
  rintro l pre x a' W ⟨hx,rfl⟩ ⟨⟨hI,hWs⟩,rfl⟩
  obtain ⟨k,p,u,q1,q2,q3,q4,q5⟩:=hI
  obtain rfl:k=x:=by have:=congrArg List.length q1;simpa using this.symm
  obtain ⟨z,q,s,g1,g2,g3,g4,g5⟩:=hstep k hx
  have hzz:=hZs _ _ g1
  have hz0:(nth z 0).scalar=true:=Iz hzz 0
  have hbW:w.heap.size < W.heap.size:=(Array.getElem?_eq_some_iff.1 q3.heap).1
  have hcallZ:=TM (F:=Fence.wide) hZ (W:=W) (.int .i64 (Zc ns k)) g1
  have hdep2:(Fence.wide.inRound l).depth.isSome=false:=rfl
  have hfn2: ∀f,(Fence.wide.inRound l).fn f:=fun _=>trivial
  have eW:Enters Tryz.prog 59:=enters_of (f:=Tryz.f59) (by kernel_rfl) (by kernel_rfl) (by kernel_rfl)
  simp only [aap]
  gi_wp2_with (first
   | (gi_at_call 236;refine (callsIn_wide.2 hcallZ).mono ?_;rintro e w5 ⟨v5,rfl,hB5,hr5⟩
      have hr6:RV w5 (fun _=>False) (nth z 0) v5:=(L0 hr5).scalar hz0
      have hcallP:=TM (F:=Fence.wide) hP (W:=w5) hr6 g2
      have q3b:=q3.below hB5)
   | (gi_at_call 60;refine (callsIn_wide.2 hcallP).mono ?_;rintro e w6 ⟨v6,rfl,hB6,hr7⟩
      obtain rfl:v6= .string s:=by
       have h7:=L0 hr7
       rw [g3] at h7
       cases h7;rfl
      have q3c:=q3b.below hB6
      have hcallW:=V6 w6 w.heap.size p u _ _ s q3c g4)
   | (gi_at_call 59;refine (callsIn_wide.2 hcallW).mono ?_;rintro e w7 ⟨rfl,p',u',hb7,hg7⟩))
  have hs5:=hB5.size
  have hs6:=hB6.size
  have hs7:=hg7.size
  have hoth: ∀j,j < W.heap.size->j≠w.heap.size->u.ownBlock≠some j->w7.heap[j]? =W.heap[j]? :=fun j h1 h2 h3=>by
   rw [hg7.other j (by omega) h2 h3,hB6.block j (by omega),hB5.block j h1]
  refine ⟨⟨by omega,fun j o hj ho hno=> ?_⟩,⟨?_,fun h=> ?_⟩,⟨k+1,p',u',(List.range_succ).symm,by omega,?_,fun j hj=> ?_,?_⟩⟩
  ·have hjW:=(Array.getElem?_eq_some_iff.1 ho).1
   rw [hoth j hjW (by omega) fun e=> ?_]
   ·exact ho
   ·rcases q3.own.2 with ⟨rfl,_⟩ | ⟨g,cap,cur,rfl,_,hg,_⟩
    ·simp [Value.ownBlock] at e
    ·simp [Value.ownBlock] at e
     subst e
     rw [hg] at ho;cases ho;cases hno
  ·exact hoth _ (by omega) (by omega) fun e=>by have:=q4 _ e;omega
  ·have:=hb h
   exact hoth _ (by omega) (by omega) fun e=>by have:=q4 _ e;omega
  ·rw [g5,Er,ByteArray.size_append];exact hb7
  ·rcases hg7.new j hj with h8 | h8
   ·exact q4 j h8
   ·omega
  ·exact ⟨by rw [hg7.os,hB6.os,hB5.os];exact q5.os,by rw [hg7.tape,hB6.tape,hB5.tape];exact q5.tape,by rw [hg7.output,hB6.output,hB5.output];exact q5.output,by have:=q5.size;omega,fun j hj=>(hoth j (by omega) (by omega) fun e=>by have:=q4 _ e;omega).trans (q5.block j hj)⟩
 case done=>
  rintro D xs W hD rfl ⟨k,p,u,q1,q2,q3,q4,q5⟩ hK
  have hD2:D=w.heap.size+1+1:=by omega
  subst hD2
  obtain rfl:ns.length=k:=by have:=congrArg List.length q1;simpa using this
  have hl:(f ns.length).data.toList.length=(f ns.length).size:=by simp
  have q3':BdAt W 123 5 w.heap.size p u (f ns.length).data.toList.length (Go.Lib.byteCells (f ns.length).data.toList):=by rw [hl];exact q3
  have hcallS:=LX W w.heap.size p u (f ns.length).data.toList q3'
  have hstr:(⟨(f ns.length).data.toList.toArray⟩:ByteArray)=f ns.length:=rfl
  rw [hstr] at hcallS
  have eS:Enters Tryz.prog 62:=enters_of (f:=Tryz.f62) (by kernel_rfl) (by kernel_rfl) (by kernel_rfl)
  have hDW:w.heap.size+1+1 < W.heap.size:=(Array.getElem?_eq_some_iff.1 hK).1
  have hK8f: ∀w8:World,(∀k,k < W.heap.size->u.ownBlock≠some k->w8.heap[k]? =W.heap[k]?)->w8.heap[w.heap.size+1+1]? =some (.deferred (some [])):=fun w8 i6=>(i6 _ hDW fun e=>by have:=q4 _ e;omega).trans hK
  have hb8f: ∀w8:World,w8.os=W.os->w8.tape=W.tape->w8.output=W.output->W.heap.size<=w8.heap.size->(∀k,k < W.heap.size->u.ownBlock≠some k->w8.heap[k]? =W.heap[k]?)->Below w.heap.size w w8:=fun w8 i1 i2 i3 i4 i6=>⟨i1.trans q5.os,i2.trans q5.tape,i3.trans q5.output,Nat.le_trans q5.size i4,fun j hj=>(i6 j (by omega) fun e=>by have:=q4 _ e;omega).trans (q5.block j hj)⟩
  gi_wp2_with (first
   | (gi_at_call 62;refine (callsIn_wide.2 hcallS).mono ?_;rintro e w8 ⟨rfl,i1,i2,i3,i4,i5,i6⟩
      have hK8:=hK8f w8 i6
      have hb8:=hb8f w8 i1 i2 i3 i4 i6))
  rename_i heq
  cases heq
  refine ⟨by simp,.inl ⟨_,_,rfl,run_takeDeferred hK8,?_⟩⟩
  exact ⟨_,results_tmp rfl _ _ _,rfl,hb8.trans (belowK_b (w:=w) (Nat.le_refl _) _ _ _ _ (by omega) hK8 rfl rfl)⟩
theorem yl {Z P:IV->Option (List IV)} {Zs Ps:List (List IV)->Option (List IV)} (hZs: ∀x,Zs [[x]]=Z x) (hPs: ∀x,Ps [[x]]=P x) (hZ:ah Tryz.prog 236 ⟨.pure,true,[1],0,Zs⟩) (hP:ah Tryz.prog 60 ⟨.pure,true,[1],0,Ps⟩) (eZ:Enters Tryz.prog 236) (eP:Enters Tryz.prog 60):
  ah Tryz.prog 185 ⟨.pure,true,[1],0,fun l=>match l with | [[x0]]=>NS Z P x0 | _=>none⟩:=by
 refine ⟨fun W0 OK0=> ?_,fun _ ls r hr=> ?_⟩
 ·intro w ok ls args r hk hok hargs hr
  simp only at hr
  split at hr
  ·rename_i x
   obtain ⟨v,rfl⟩: ∃v,args=[v]:=by
    match args,hargs.1 with
    | [v],_=>exact ⟨v,rfl⟩
   obtain ⟨ns,f,rfl,hmax,hf0,rfl,hst⟩:=DQ hr
   have hx:RV w ok (.lst (ns.map fun n=>[.int .i64 n])) v:=by
    rcases hargs.2 0 _ v rfl rfl with ⟨y,h3,h4⟩ | ⟨h3,_⟩
    ·cases h3;exact h4
    ·simp at h3
   cases hx with
   | lst _ a cap sz vals hcap hsz hmem hrel=>
     have hlen:(ns.map fun n=>[IV.int .i64 n]).length=ns.length:=by simp
     have hsz1:0 < ns.length->sz=1:=fun h=>by
      have:=hsz [.int .i64 (ns[0])] (List.mem_map.2 ⟨ns[0],List.getElem_mem _,rfl⟩)
      exact this.symm
     obtain ⟨b,off,hA,hbw,hc⟩: ∃b off,(0 < ns.length->a=some ⟨b,off,none⟩)/\(0 < ns.length->b < w.heap.size)/\zW w b off ns:=by
      by_cases h0:0 < ns.length
      ·obtain ⟨ad,ha,hoka,hca⟩:=hmem 0 0 (by simpa using h0) (by rw [hsz1 h0];exact Nat.one_pos)
       obtain ⟨ab,ao,sp⟩:=ad
       have hsp:sp=none:=by
        cases sp with
        | none=>rfl
        | some q=>
          unfold World.cell? at hca
          simp only [Addr.add,Nat.zero_mul,Nat.zero_add,if_true,Option.isSome_some] at hca
          split at hca<;>cases hca
       subst hsp
       refine ⟨ab,ao,fun _=>ha,fun _=>hok _ hoka,fun j n hj=> ?_⟩
       have hjl:=(List.getElem?_eq_some_iff.1 hj).1
       obtain ⟨ad2,ha2,_,hc2⟩:=hmem j 0 (by simpa using hjl) (by rw [hsz1 h0];exact Nat.one_pos)
       rw [ha] at ha2;cases ha2
       rw [hsz1 h0,cg] at hc2
       have hr2:=hrel j 0 [.int .i64 n] (.int .i64 n) (by simp [hj]) rfl
       generalize vals j 0=vv at hr2 hc2
       cases hr2
       simpa using hc2
      ·exact ⟨0,0,fun h=>absurd h h0,fun h=>absurd h h0,fun j n hj=>by have:=(List.getElem?_eq_some_iff.1 hj).1;omega⟩
     rw [hlen]
     have:=Zb Zs Ps hZ.1 hP.1 (fun x r h=>hZ.2 rfl _ r h) eZ eP 1 (Nat.le_refl _) w a b off cap ns hA hmax hbw hc f hf0 fun k hk=>by
      obtain ⟨z,q,s,g1,g2,g3⟩:=hst k hk
      exact ⟨z,q,s,by rw [hZs];exact g1,by rw [hPs];exact g2,g3⟩
     refine (callsIn_wide.1 this).mono fun e w' he=> ?_
     obtain ⟨rfl,hB⟩:=he
     exact ⟨_,rfl,hB,.inl ⟨rfl,.str _⟩⟩
  ·cases hr
 ·simp only at hr
  split at hr
  ·obtain ⟨ns,f,_,_,_,rfl,_⟩:=DQ hr
   intro y hy
   rw [List.mem_singleton.1 hy];rfl
  ·cases hr
end Go.AM
