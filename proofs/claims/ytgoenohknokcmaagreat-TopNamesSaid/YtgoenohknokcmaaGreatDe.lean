/- Walks by hand: numbers as how far each is from the one ahead. -/
import Derived.Test.YtgoenohknokcmaaGreatAe
import Derived.Test.YtgoenohknokcmaaGreatBd
open Go.Proofs.Tryz renaming prog->ao,f254->cb
open Go.Fence renaming wide->a1
open Array renaming getElem?_eq_some_iff->bd,replicate_succ->bC,replicate_zero->bM
open List renaming getElem?_eq_some_iff->bs,append_toArray->bO,size_toArray->b1,push_toArray->b2,range->b3,length_cons->b4,cons_append->b5,length_nil->b6,nil_append->b7,range_succ->ca,length->cc
open Go.Value renaming ownBlock->bR
set_option linter.unusedVariables false
set_option linter.unusedSimpArgs false
set_option maxRecDepth 100000
namespace Go.AM
open Go.Proofs Go.RowKit Go.Shelf Go.Lib
 attribute [local go_sem] Oper.semAt_some
theorem ZQ (nF:Nat) (w:World) (A:Option Addr) (n c:Nat):
  CallsIn a1 nF ao 235 #[.slice A n c] w λe b=>e= .returned (.func (.func 254) #[] #[.pointer (some ⟨w.heap.size,0,none⟩)])/\b=w.alloc (.cells #[.slice A n c] 84):=by
 have d: ∀f,a1.fn f:= λ_=>trivial
 have a:a1.depth.isSome=false:=rfl
 have hf:ao.funcs[235]? =some Tryz.f235:=by kernel_rfl
 have hn:Tryz.f235.ntmps=4:=by kernel_rfl
 refine callsIn_of_wp hf rfl trivial ?_ rfl
 simp only [hn,b1,b4,b6,Nat.reduceAdd,Nat.reduceSub,bC,bM,b2,bO,b7,b5]
 gi_wp2
 refine bodyPost_ret (results_tmp rfl _ _ _) rfl ?_
 exact ⟨rfl,rfl⟩
def Ef (W:World) (b off:Nat) (ns:List Int):Prop:= ∀(j:Nat) (n:Int),ns[j]? =some n->W.cell? ⟨b,off+j,none⟩=some (.int .i64 n)
theorem Ef.block {W a:World} {b off:Nat} {ns:List Int} (h:Ef W b off ns) (hb:0 < ns.length->a.heap[b]? =W.heap[b]?):Ef a b off ns:= λj n hj=>by
 have:=h j n hj
 have c:=(bs.1 hj).1
 unfold World.cell? at*
 rw [hb (by omega)]
 exact this
set_option maxHeartbeats 2000000 in
theorem W8 (nF l B b off cap:Nat) (A:Option Addr) (ns:List Int) (K:0 < ns.length->A=some ⟨b,off,none⟩) (H:ns.length<=2 ^ 40) (J C:List Nat->World->Prop)
  (L: ∀pre x o,(x < ns.length/\pre=b3 x)->J pre o->YieldAt a1 (nF - 1) ao l #[.int .i64 (dOf ns x)] o λe a=>(e= .returned (.bool true)/\J (pre++[x]) a/\KpD ns.length B b o a)\/(e= .returned (.bool false)/\C (pre++[x]) a))
  (W:World) (r:Boxed W B 84 (.slice A ns.length cap)) (hc:Ef W b off ns) (h0:J [] W):
  CallsIn a1 nF ao 254 #[.func (.yield l) #[] #[],.pointer (some ⟨B,0,none⟩)] W λe a=>(∃v,e= .returned v)/\((∃ys,ys=b3 ns.length/\J ys a)\/(∃pre,True/\C pre a)):=by
 have O: ∀f,a1.fn f:= λ_=>trivial
 have F:a1.depth.isSome=false:=rfl
 have hf:ao.funcs[254]? =some cb:=by kernel_rfl
 have hn:cb.ntmps=20:=by kernel_rfl
 have I:ao.underlying 84=some (.slice 3):=by kernel_rfl
 have N:=r.cell
 refine callsIn_of_wp hf rfl trivial ?_ rfl
 simp only [hn,b1,b4,b6,Nat.reduceAdd,Nat.reduceSub,bC,bM,b2,bO,b7,b5]
 gi_wp2
 gi_loopw [8,3] (λi last wr=> ∃k:Nat,k<=ns.length/\i= .int .i64 (k:Int)/\last= .int .i64 ((0::ns).getD k 0)/\J (b3 k) wr/\KpD ns.length B b W wr)
  (λi _ _=>ns.length - (Yg i).toNat)
 case atStart=>exact ⟨0,Nat.zero_le _,rfl,rfl,h0,.refl _ _ _ _⟩
 case round=>
  obtain ⟨k,hk,rfl,rfl,c,g⟩:=hrel
  by_cases w:k=ns.length
  ·subst w
   gi_wp2
   go_end0
   exact ⟨⟨_,rfl⟩,.inl ⟨_,rfl,c⟩⟩
  ·have m:k < ns.length:=by omega
   obtain ⟨s,hs⟩: ∃s,ns[k]? =some s:=⟨ns[k],List.getElem?_eq_getElem m⟩
   have S:wr.cell? ⟨b,off+k,none⟩=some (.int .i64 s):=(hc.block g.2) k s hs
   have j:ns.getD k 0=s:=by rw [List.getD_eq_getElem?_getD,hs];rfl
   have t:(0::ns).getD (k+1) 0=s:=by rw [List.getD_cons_succ];exact j
   obtain rfl:=K (by omega)
   obtain ⟨fn,tmps,assign,body,z,D⟩:=L _ k wr ⟨m,rfl⟩ c
   simp only [dOf,j] at z D
   obtain ⟨n,y⟩: ∃n,(0::ns).getD k 0=n:=⟨_,rfl⟩
   rw [y] at z ⊢
   obtain ⟨p,h⟩: ∃p,IntKind.i64.wrap (s - n)=p:=⟨_,rfl⟩
   rw [h] at z
   have E:Go.RowKit.wrap64 (s - n)=p:=by unfold Go.RowKit.wrap64;rw [<-h,IntKind.wrap_i64]
   have G:(k:Int) < (ns.length:Int):=by omega
   have Q:IntKind.i64.wrap ((k:Int)+1)=((k+1:Nat):Int):=by rw [IntKind.wrap_i64];omega
   have M:(0:Int)<=(k:Int):=by omega
   have P:((k:Int)).toNat=k:=by omega
   gi_wp2
   refine D.mono ?_
   rintro e R (⟨rfl,q,u⟩ | ⟨rfl,d⟩)
   ·gi_wp2
    refine ⟨⟨k+1,by omega,by simp,by rw [t],by rw [ca];exact q,g.trans u⟩,by simp [Yg];omega⟩
   ·gi_wp2
    refine bodyPost_ret (results_none rfl _ _ _) rfl ?_
    exact ⟨⟨_,rfl⟩,.inr ⟨_,trivial,d⟩⟩
def Zg (w:World) (f:Nat->ByteArray) (B n:Nat) (pre:List Nat) (W:World):Prop:=
 ∃(k:Nat) (p u:Value),pre=b3 k/\k<=n/\BdAt W 123 5 w.heap.size p u (f k).size (strCells (f k))/\(∀j,u.ownBlock=some j->B+2<=j)/\Below w.heap.size w W
def aeZ (w:World) (A:Option Addr) (n c:Nat) (d:Int):Act:=
 { tmps:= #[.slice A n c,undef,.string { data:= #[] },.pointer (some ⟨w.heap.size,0,none⟩),.int .i64 d,.slice A n c,.func (.func 254) #[] #[.pointer (some ⟨w.heap.size+1,0,none⟩)],.int .i64 d,undef,undef,undef,undef,undef],
   defers:=[] }
theorem Zg.own2 (w:World) (f:Nat->ByteArray) (B n:Nat) (l:w.heap.size+2<=B):Hk B (Zg w f B n):=by
 rintro s W i row ⟨k,p,u,h1,h2,h,c,d⟩ g hr
 have a: ∀b,b < B\/B+2<=b->some b≠row:= λb hb e=>by have:=(hr b e.symm).1;omega
 refine ⟨k,p,u,h1,h2,h.kept g (a _ (.inl (by omega))) ?_,c,d.grown g d.size λk e=>by have:=(hr k e).1;omega⟩
 cases hu:u.ownBlock with
 | none=>exact .inl rfl
 | some j=>exact .inr (a j (.inr (c j hu)))
theorem Yr {F:Fence} {g:Nat} {U:List (List IV)->Option (List IV)} (d: ∀w ok,PureAt ao g [] [1] U w ok) {W:World} {x:IV} {v:Value} (hx:RV W (λ_=>False) x v) {r:List IV} (hr:U [[x]]=some r):
  Calls ao g #[v] W λe a=> ∃v',e= .returned v'/\Below W.heap.size W a/\gm a (CT W (λ_=>False) a) [1] r v':=by
 have:=d W (λ_=>False) W (λ_=>False) [[x]] [v] r (.refl _ _) (λb h=>h.elim) ⟨rfl,λi c u h1 h2=>by
  match i with
  | 0=>cases h1;cases h2;exact .inl ⟨x,rfl,hx⟩
  | n+1=>exact absurd h1 (by simp)⟩ hr
 exact this
theorem Qw {w:World} {ok:Nat->Prop} {r:List IV} {v:Value} (h:gm w ok [1] r v):RV w ok (nth r 0) v:=by
 rcases h with ⟨_,h⟩ | ⟨h,_⟩
 ·exact h
 ·omega
set_option maxHeartbeats 4000000 in
theorem aeD (L Q:List (List IV)->Option (List IV)) (hZ: ∀w ok,PureAt ao 236 [] [1] L w ok) (hP: ∀w ok,PureAt ao 60 [] [1] Q w ok)
  (a2: ∀x r,L [[x]]=some r-> ∀y∈r,y.scalar=true) (eZ:Enters ao 236) (eP:Enters ao 60)
  (nF:Nat) (h1:1<=nF) (w:World) (A:Option Addr) (b off cap:Nat) (ns:List Int) (hA:0 < ns.length->A=some ⟨b,off,none⟩) (ac:ns.length<=2 ^ 40) (hb:0 < ns.length->b < w.heap.size) (hc:Ef w b off ns)
  (f:Nat->ByteArray) (a7:f 0=⟨#[]⟩) (N: ∀k,k < ns.length-> ∃z q s,L [[.int .i64 (dOf ns k)]]=some z/\Q [[nth z 0]]=some q/\nth q 0= .str s/\(f k).size+s.size<=140737488355328/\f (k+1)=f k++s):
  CallsIn a1 nF ao 185 #[.slice A ns.length cap] w λe W'=>e= .returned (.string (f ns.length))/\Below w.heap.size w W':=by
 have c8: ∀f,a1.fn f:= λ_=>trivial
 have bY:a1.depth.isSome=false:=rfl
 have hf:ao.funcs[185]? =some Tryz.f185:=by kernel_rfl
 have hn:Tryz.f185.ntmps=13:=by kernel_rfl
 refine callsIn_of_wp_marks hf rfl trivial ?_ rfl
 simp only [hn,b1,b4,b6,Nat.reduceAdd,Nat.reduceSub,bC,bM,b2,bO,b7,b5]
 gi_wp2_with (first | (gi_at_call 235;refine (ZQ _ _ _ _ _).mono ?_;rintro e w2 ⟨rfl,bi⟩))
 have dO:=bi
 obtain ⟨E,v⟩: ∃E,E=(w.alloc (.cells #[.pointer none,.slice none 0 0] 123)).alloc (.cells #[.slice A ns.length cap] 84):=⟨_,rfl⟩
 rw [<-v]
 have c9:E.heap.size=w.heap.size+2:=by rw [v];simp
 have T:Below w.heap.size w E:=by rw [v];exact ((Below.refl _ w).alloc (Nat.le_refl _) _).alloc (by simp) _
 have aB:Boxed E (w.heap.size+1) 84 (.slice A ns.length cap):=by rw [v];have:=Boxed.new (w.alloc (.cells #[.pointer none,.slice none 0 0] 123)) 84 (.slice A ns.length cap);simpa using this
 have ab:BdAt E 123 5 w.heap.size (.pointer none) (.slice none 0 0) (f 0).size (strCells (f 0)):=by
  rw [v,a7]
  exact BdAt.alloc ⟨World.alloc_heap_new w _,.inl rfl,World.ownsRow_nil _ _ _ _,by simp [bR]⟩ _
 have a5:Ef E b off ns:=hc.block λh=>T.block _ (hb h)
 refine yp rfl h1 (gf:=254) (lb:= #[.pointer (some ⟨w.heap.size+1,0,none⟩)]) rfl trivial (enters_of (f:=cb) (by kernel_rfl) (by kernel_rfl) (by kernel_rfl))
  (encs:= λx:Nat=> #[.int .i64 (dOf ns x)]) (R:= λpre x=>x < ns.length/\pre=b3 x) (Kp:=KpD ns.length (w.heap.size+1) b) (Chg:= λA B=>False) (S:= λxs=>xs=b3 ns.length) (Sp:= λ_=>True)
  (λl J Jx W hW hJ ck hY h0=>W8 (nF - 1) l (w.heap.size+1) b off cap A ns hA ac J Jx hY W
    ((hW.block _ (by omega)).trans aB) (a5.block λh=>hW.block _ (by have:=hb h;omega)) h0)
  (λ_ _ _ _ h=>h.elim) (λh k=>h.trans k) (λW l o o' hl M _ _=>⟨World.putObj_heap_other (by omega),λh=>World.putObj_heap_other (by have:=hb h;omega)⟩) (λ_=>rfl)
  (λpre W=>Zg w f E.heap.size ns.length pre W) (λc pre W=>False) ?c2 ?c3 (λ_ _ _ h=>h.elim) (λ_ _ _ _ h=>h.elim) ?c6
  (λpre x a' W=>(Zg w f E.heap.size ns.length pre W/\E.heap.size+2<=W.heap.size)/\a'=aeZ w A ns.length cap (dOf ns x))
  ?c7 ?assign ?body ?done (λ_ _ _ _ _ _ h=>h.elim)
 case c2=>exact Zg.own2 _ _ _ _ (by omega)
 case c3=>exact λc s W W' row h _ _=>h
 case c6=>exact ⟨0,_,_,rfl,Nat.zero_le _,ab,λj hj=>by simp [bR] at hj,T⟩
 case c7=>
  intro x a'
  rintro s W W' row ⟨⟨h1,h2⟩,h4⟩ hg hr
  exact ⟨⟨Zg.own2 _ _ _ _ (by omega) s W W' row h1 hg hr,Nat.le_trans h2 hg.size⟩,h4⟩
 case assign=>
  rintro l pre x W K Y ⟨hx,rfl⟩ hI U
  simp only [aeZ] at U ⊢
  gi_wp2
  exact U _ _ ⟨⟨hI,Y⟩,rfl⟩ ⟨Nat.le_refl _,λk o _ M _=>M⟩ (.refl _ _ _ _)
 case body=>
  rintro l pre x a' W ⟨hx,rfl⟩ ⟨⟨hI,Y⟩,rfl⟩
  obtain ⟨k,p,u,q1,q2,q3,O,C⟩:=hI
  obtain rfl:k=x:=by have:=congrArg cc q1;simpa using this.symm
  obtain ⟨z,q,s,g1,g2,g3,g4,g5⟩:=N k hx
  have br:=a2 _ _ g1
  have bm:(nth z 0).scalar=true:=NC br 0
  have c0:w.heap.size < W.heap.size:=(bd.1 q3.heap).1
  have I:=Yr (F:=a1) hZ (W:=W) (.int .i64 (dOf ns k)) g1
  have a6:(a1.inRound l).depth.isSome=false:=rfl
  have b0: ∀f,(a1.inRound l).fn f:= λ_=>trivial
  have eW:Enters ao 59:=enters_of (f:=Tryz.f59) (by kernel_rfl) (by kernel_rfl) (by kernel_rfl)
  simp only [aeZ]
  gi_wp2_with (first
   | (gi_at_call 236;refine (callsIn_wide.2 I).mono ?_;rintro e w5 ⟨v5,rfl,m,bb⟩
      have be:RV w5 (λ_=>False) (nth z 0) v5:=(Qw bb).scalar bm
      have G:=Yr (F:=a1) hP (W:=w5) be g2
      have bA:=q3.below m)
   | (gi_at_call 60;refine (callsIn_wide.2 G).mono ?_;rintro e w6 ⟨v6,rfl,n,bf⟩
      obtain rfl:v6= .string s:=by
       have h7:=Qw bf
       rw [g3] at h7
       cases h7;rfl
      have bB:=bA.below n
      have H:=aaZ w6 w.heap.size p u _ _ s bB g4)
   | (gi_at_call 59;refine (callsIn_wide.2 H).mono ?_;rintro e w7 ⟨rfl,p',u',a3,t⟩))
  have dd:=m.size
  have dl:=n.size
  have dq:=t.size
  have d: ∀j,j < W.heap.size->j≠w.heap.size->u.ownBlock≠some j->w7.heap[j]? =W.heap[j]? := λj h1 h2 h3=>by
   rw [t.other j (by omega) h2 h3,n.block j (by omega),m.block j h1]
  refine ⟨⟨by omega,λj o hj M a9=> ?_⟩,⟨?_,λh=> ?_⟩,⟨k+1,p',u',(ca).symm,by omega,?_,λj hj=> ?_,?_⟩⟩
  ·have a8:=(bd.1 M).1
   rw [d j a8 (by omega) λe=> ?_]
   ·exact M
   ·rcases q3.own.2 with ⟨rfl,_⟩ | ⟨g,cap,cur,rfl,_,hg,_⟩
    ·simp [bR] at e
    ·simp [bR] at e
     subst e
     rw [hg] at M;cases M;cases a9
  ·exact d _ (by omega) (by omega) λe=>by have:=O _ e;omega
  ·have:=hb h
   exact d _ (by omega) (by omega) λe=>by have:=O _ e;omega
  ·rw [g5,JS,ByteArray.size_append];exact a3
  ·rcases t.new j hj with h8 | h8
   ·exact O j h8
   ·omega
  ·exact ⟨by rw [t.os,n.os,m.os];exact C.os,by rw [t.tape,n.tape,m.tape];exact C.tape,by rw [t.output,n.output,m.output];exact C.output,by have:=C.size;omega,λj hj=>(d j (by omega) (by omega) λe=>by have:=O _ e;omega).trans (C.block j hj)⟩
 case done=>
  rintro D xs W hD rfl ⟨k,p,u,q1,q2,q3,O,C⟩ U
  have aT:D=w.heap.size+1+1:=by omega
  subst aT
  obtain rfl:ns.length=k:=by have:=congrArg cc q1;simpa using this
  have hl:(f ns.length).data.toList.length=(f ns.length).size:=by simp
  have bx:BdAt W 123 5 w.heap.size p u (f ns.length).data.toList.length (Go.Lib.byteCells (f ns.length).data.toList):=by rw [hl];exact q3
  have a:=QC W w.heap.size p u (f ns.length).data.toList bx
  have al:(⟨(f ns.length).data.toList.toArray⟩:ByteArray)=f ns.length:=rfl
  rw [al] at a
  have eS:Enters ao 62:=enters_of (f:=Tryz.f62) (by kernel_rfl) (by kernel_rfl) (by kernel_rfl)
  have a0:w.heap.size+1+1 < W.heap.size:=(bd.1 U).1
  have X: ∀i:World,(∀k,k < W.heap.size->u.ownBlock≠some k->i.heap[k]? =W.heap[k]?)->i.heap[w.heap.size+1+1]? =some (.deferred (some [])):= λi P=>(P _ a0 λe=>by have:=O _ e;omega).trans U
  have Z: ∀i:World,i.os=W.os->i.tape=W.tape->i.output=W.output->W.heap.size<=i.heap.size->(∀k,k < W.heap.size->u.ownBlock≠some k->i.heap[k]? =W.heap[k]?)->Below w.heap.size w i:= λi i1 i2 i3 i4 P=>⟨i1.trans C.os,i2.trans C.tape,i3.trans C.output,Nat.le_trans C.size i4,λj hj=>(P j (by omega) λe=>by have:=O _ e;omega).trans (C.block j hj)⟩
  gi_wp2_with (first
   | (gi_at_call 62;refine (callsIn_wide.2 a).mono ?_;rintro e i ⟨rfl,i1,i2,i3,i4,i5,P⟩
      have V:=X i P
      have a4:=Z i i1 i2 i3 i4 P))
  rename_i heq
  cases heq
  refine ⟨by simp,.inl ⟨_,_,rfl,run_takeDeferred V,?_⟩⟩
  exact ⟨_,results_tmp rfl _ _ _,rfl,a4.trans (belowK_b (w:=w) (Nat.le_refl _) _ _ _ _ (by omega) V rfl rfl)⟩
theorem Cy {Z P:IV->Option (List IV)} {A u:List (List IV)->Option (List IV)} (E: ∀x,A [[x]]=Z x) (D: ∀x,u [[x]]=P x) (K:ay ao 236 ⟨.pure,true,[1],0,A⟩) (hP:ay ao 60 ⟨.pure,true,[1],0,u⟩) (S:Enters ao 236) (R:Enters ao 60):
  ay ao 185 ⟨.pure,true,[1],0,λl=>match l with | [[x0]]=>L8 Z P x0 | _=>none⟩:=by
 refine ⟨λW0 M=> ?_,λ_ ls r hr=> ?_⟩
 ·intro w ok ls args r hk hok c hr
  simp only at hr
  split at hr
  ·rename_i x
   obtain ⟨v,rfl⟩: ∃v,args=[v]:=by
    match args,c.1 with
    | [v],_=>exact ⟨v,rfl⟩
   obtain ⟨ns,f,rfl,o,G,rfl,J⟩:=IH hr
   have hx:RV w ok (.lst (ns.map λn=>[.int .i64 n])) v:=by
    rcases c.2 0 _ v rfl rfl with ⟨y,C,W⟩ | ⟨C,_⟩
    ·cases C;exact W
    ·simp at C
   cases hx with
   | lst _ a cap sz vals hcap hsz hmem hrel=>
     have hlen:(ns.map λn=>[IV.int .i64 n]).length=ns.length:=by simp
     have d:0 < ns.length->sz=1:= λh=>by
      have:=hsz [.int .i64 (ns[0])] (List.mem_map.2 ⟨ns[0],List.getElem_mem _,rfl⟩)
      exact this.symm
     obtain ⟨b,off,X,F,hc⟩: ∃b off,(0 < ns.length->a=some ⟨b,off,none⟩)/\(0 < ns.length->b < w.heap.size)/\Ef w b off ns:=by
      by_cases h0:0 < ns.length
      ·obtain ⟨ad,L,p,g⟩:=hmem 0 0 (by simpa using h0) (by rw [d h0];exact Nat.one_pos)
       obtain ⟨N,Q,sp⟩:=ad
       have I:sp=none:=by
        cases sp with
        | none=>rfl
        | some q=>
          unfold World.cell? at g
          simp only [Addr.add,Nat.zero_mul,Nat.zero_add,if_true,Option.isSome_some] at g
          split at g<;>cases g
       subst I
       refine ⟨N,Q,λ_=>L,λ_=>hok _ p,λj n hj=> ?_⟩
       have H:=(bs.1 hj).1
       obtain ⟨O,m,_,i⟩:=hmem j 0 (by simpa using H) (by rw [d h0];exact Nat.one_pos)
       rw [L] at m;cases m
       rw [d h0,dI] at i
       have t:=hrel j 0 [.int .i64 n] (.int .i64 n) (by simp [hj]) rfl
       generalize vals j 0=vv at t i
       cases t
       simpa using i
      ·exact ⟨0,0,λh=>absurd h h0,λh=>absurd h h0,λj n hj=>by have:=(bs.1 hj).1;omega⟩
     rw [hlen]
     have:=aeD A u K.1 hP.1 (λx r h=>K.2 rfl _ r h) S R 1 (Nat.le_refl _) w a b off cap ns X o F hc f G λk hk=>by
      obtain ⟨z,q,s,T,U,V⟩:=J k hk
      exact ⟨z,q,s,by rw [E];exact T,by rw [D];exact U,V⟩
     refine (callsIn_wide.1 this).mono λe w' he=> ?_
     obtain ⟨rfl,Y⟩:=he
     exact ⟨_,rfl,Y,.inl ⟨rfl,.str _⟩⟩
  ·cases hr
 ·simp only at hr
  split at hr
  ·obtain ⟨ns,f,_,_,_,rfl,_⟩:=IH hr
   intro y hy
   rw [List.mem_singleton.1 hy];rfl
  ·cases hr
end Go.AM
