/- Walk by hand: tree.May: rows, one by one; then each node's way up, whatever order the map gives. -/
import Derived.Test.YtgoenohknokcmaaGreatAe
import Derived.Lib.QuietBelowIn
import Derived.Lib.SlKeysI
import Derived.Sort.MapsRangeIn
import Derived.Test.YtgoenohknokcmaaGreatHd
import Derived.Test.YtgoenohknokcmaaGreatProg
set_option linter.unusedVariables false
set_option linter.unusedSimpArgs false
set_option maxRecDepth 100000
namespace Go.AM
open Go.Proofs Go.RowKit Go.Shelf Go.Maps Go.Sort
 attribute [local go_sem] Oper.semAt_some
@[local go_sem] theorem WK {P:Program} {w:World} {a:Addr} {m:Mode} (k:FloatKind) (x:Nat):(store a (.float k x) m).run P w=stored P w a (.float k x) m:=run_store P w a _ m rfl
theorem tH {n:Nat} {P:Program} {fn:Func} {tmps:Array Value} {R:Ending->World->Prop} (Φ:World->Prop) (lo:Nat) (hΦ: ∀(W:World) (D:Nat),Φ W->lo<=D->W.heap[D]? =some (.deferred (some []))->Φ (W.putObj D (.deferred none)))
  (hend: ∀W,Φ W->LeavesInM Fence.wide n P fn tmps R [] .returning W): ∀(Ds:List Nat) (W:World),Φ W->Ds.Nodup->(∀D∈Ds,lo<=D/\W.heap[D]? =some (.deferred (some [])))->LeavesInM Fence.wide n P fn tmps R (Ds.map fun D=>{ target:= .collected D,args:= #[] }) .returning W
 | [],W,hW,_,_=>hend W hW
 | D::Ds,W,hW,hnd,hD=>by
   obtain ⟨h1,h2⟩:=hD D (by simp)
   rw [List.nodup_cons] at hnd
   refine ⟨by simp,.inl ⟨D,_,rfl,run_takeDeferred h2,tH Φ lo hΦ hend Ds _ (hΦ W D hW h1 h2) hnd.2 fun D' hD'=> ?_⟩⟩
   have:=hD D' (by simp [hD'])
   exact ⟨this.1,(World.putObj_heap_other (fun e=>hnd.1 (by first | exact e▸hD' | exact e.symm▸hD'))).trans this.2⟩
set_option maxHeartbeats 4000000 in
theorem Zt (nF:Nat) (h1:1<=nF) (w:World) (A:Option Addr) (b off cap:Nat) (ps:List (Int×Int)) (ss:Nat->ByteArray) (fs:Nat->Nat) (ob:Nat->Bool) (hA:0 < ps.length->A=some ⟨b,off,none⟩) (hlt:0 < ps.length->b < w.heap.size) (hmax:ps.length<=2 ^ 40)
  (hwf: ∀p∈ps,(Lit.int .i64 p.1).wf=true/\(Lit.int .i64 p.2).wf=true) (hat:zM w b off ps ss fs)
  (hone: ∀(j:Nat) (p:Int×Int) (W:World),ps[j]? =some p->Calls Tryz.prog 70 #[.agg #[.int .i64 p.1,.int .i64 p.2,.string (ss j),.float .f64 (fs j)]] W fun e W'=>e= .returned (.bool (ob j))/\Below W.heap.size W W'):
  CallsIn Fence.wide nF Tryz.prog 99 #[.slice A ps.length cap] w fun e W'=>e= .returned (.bool (vd ob ps))/\Below w.heap.size w W':=by
 have hfn: ∀f,Fence.wide.fn f:=fun _=>trivial
 have hdep:Fence.wide.depth.isSome=false:=rfl
 have hf:Tryz.prog.funcs[99]? =some Tryz.f99:=by kernel_rfl
 have hn:Tryz.f99.ntmps=52:=by kernel_rfl
 have ty3:Tryz.prog.underlying 3=some (.int .i64):=by kernel_rfl
 have mixed:Tryz.prog.follows .mixedOrders=true:=by kernel_rfl
 refine callsIn_of_wp_marks hf rfl trivial ?_ rfl
 simp only [hn,List.size_toArray,List.length_cons,List.length_nil,Nat.reduceAdd,Nat.reduceSub,Array.replicate_succ,Array.replicate_zero,List.push_toArray,List.append_toArray,List.nil_append,List.cons_append]
 by_cases hlen:(ps.length:Int) > 2000
 ·gi_wp2
  refine ⟨.bool false,?_,?_,(Below.refl _ w).alloc (Nat.le_refl _) _⟩
  ·have hr:Tryz.f99.results= #[.cell 2 4]:=by kernel_rfl
   simp [results,hr,go_sem]
  ·have:vd ob ps=false:=by unfold vd;rw [decide_eq_false (by omega)];rfl
   rw [this]
 gi_wp2
 gi_loopw [13] (fun i wr=> ∃k:Nat,k<=ps.length/\i= .int .i64 k/\Below w.heap.size w wr/\Boxed wr w.heap.size 4 (.bool false)/\YI ob ps k)
  (fun i _=>ps.length - (TH i).toNat)
 case atStart=>exact ⟨0,Nat.zero_le _,rfl,(Below.refl _ w).alloc (Nat.le_refl _) _,Boxed.new w 4 _,fun j hj=>by omega⟩
 case round=>
  obtain ⟨k,hk,rfl,hB,hbx,hW⟩:=hrel
  by_cases hkl:k < ps.length
  ·obtain ⟨p,hp⟩: ∃p,ps[k]? =some p:=⟨ps[k],List.getElem?_eq_getElem hkl⟩
   obtain ⟨c0,c1,c2,c3⟩:=hat k p hp
   have hbw:=hlt (by omega)
   obtain rfl:=hA (by omega)
   have d0:=(hB.cell (p:=⟨b,off+k*4,none⟩) hbw).trans c0
   have d1:=(hB.cell (p:=⟨b,off+k*4+1,none⟩) hbw).trans c1
   have d2:=(hB.cell (p:=⟨b,off+k*4+2,none⟩) hbw).trans c2
   have d3:=(hB.cell (p:=⟨b,off+k*4+3,none⟩) hbw).trans c3
   obtain ⟨v,hv⟩: ∃v,v=wr.alloc (.cells #[.int .i64 p.1,.int .i64 p.2,.string (ss k),.float .f64 (fs k)] 72):=⟨_,rfl⟩
   have hBv:Below w.heap.size w v:=hv▸hB.alloc hB.size _
   have hxv:Boxed v w.heap.size 4 (.bool false):=hv▸hbx.alloc _
   have hev:v.heap[wr.heap.size]? =some (.cells #[.int .i64 p.1,.int .i64 p.2,.string (ss k),.float .f64 (fs k)] 72 (0,0)):=hv▸World.alloc_heap_new wr _
   have v0:v.cell? ⟨wr.heap.size,0,none⟩=some (.int .i64 p.1):=by simp [World.cell?,hev]
   have v1:v.cell? ⟨wr.heap.size,1,none⟩=some (.int .i64 p.2):=by simp [World.cell?,hev]
   have v2:v.cell? ⟨wr.heap.size,2,none⟩=some (.string (ss k)):=by simp [World.cell?,hev]
   have v3:v.cell? ⟨wr.heap.size,3,none⟩=some (.float .f64 (fs k)):=by simp [World.cell?,hev]
   have k0:=cell_regrown v0
   have k1:=cell_regrown v1
   have k2:=cell_regrown v2
   have k3:=cell_regrown v3
   have cO: ∀n d os,CallsIn Fence.wide n Tryz.prog 70 #[.agg #[.int .i64 p.1,.int .i64 p.2,.string (ss k),.float .f64 (fs k)]] (grow (redrawn v d) os) fun e w''=>e= .returned (.bool (ob k))/\ ∃p:Regrown,w''=grow (redrawn v p.d) p.os:=fun n d os=>CallsIn.regrown_of (callsIn_wide.2 (hone k p _ hp))
   cases hok:ob k with
   | false=>
     rw [hok] at cO
     gi_wp2
     rw [<-hv]
     clear hv
     refine wpIn_region_quiet_below rfl mixed (by kernel_rfl) ?_
     repeat (quiet_step_in (exact cO _ _ _))
     refine wpQuietIn_nil ?_
     rintro w2 ⟨⟨dq,osq⟩,rfl⟩
     have hb2:=below_regrown v dq osq
     generalize grow (redrawn v dq) osq=w2 at hb2 ⊢
     have hbx2:Boxed w2 w.heap.size 4 (.bool false):=(hb2.block _ hxv.lt).trans hxv
     have g1:=hbx2.cell
     have g2:=hbx2.frozen
     gi_wp2
     refine ⟨.bool false,?_,?_,?_⟩
     ·have hr:Tryz.f99.results= #[.cell 2 4]:=by kernel_rfl
      simp [results,hr,go_sem,(hbx2.set (.bool false)).cell]
     ·have hno:vd ob ps=false:=by
       cases hm:vd ob ps with
       | false=>rfl
       | true=>
         unfold vd at hm
         simp only [Bool.and_eq_true] at hm
         exact absurd ((xj.1 hm.2.1 k hkl).1) (by simp [hok])
      rw [hno]
     ·exact (hBv.trans (hb2.mono hBv.size)).setCell (by simp) _
   | true=>
     rw [hok] at cO
     gi_wp2
     rw [<-hv]
     clear hv
     rcases Nat.eq_zero_or_pos k with rfl | hk0
     ·refine wpIn_region_quiet_below rfl mixed (by kernel_rfl) ?_
      repeat (quiet_step_in (exact cO _ _ _))
      refine wpQuietIn_nil ?_
      rintro w2 ⟨⟨dq,osq⟩,rfl⟩
      have hb2:=below_regrown v dq osq
      generalize grow (redrawn v dq) osq=w2 at hb2 ⊢
      gi_wp2
      refine ⟨⟨0+1,by omega,by simp,hBv.trans (hb2.mono hBv.size),(hb2.block _ hxv.lt).trans hxv,?_⟩,by simp [TH];omega⟩
      intro j hj
      obtain rfl:j=0:=by omega
      exact ⟨hok,fun _ _ h=>absurd h (by omega)⟩
     ·obtain ⟨m,hm1⟩: ∃m,m+1=k:=⟨k - 1,by omega⟩
      obtain ⟨q,hq⟩: ∃q,ps[m]? =some q:=⟨ps[m]'(by omega),List.getElem?_eq_getElem _⟩
      obtain ⟨q0,q1,q2,q3⟩:=hat m q hq
      have z0:=cell_regrown ((hBv.cell (p:=⟨b,off+m*4,none⟩) hbw).trans q0)
      have hwr:IntKind.i64.wrap ((k:Int) - 1)=(m:Int):=by rw [IntKind.wrap_i64];omega
      have hml:(m:Int) < ps.length:=by omega
      have hml0:(0:Int)<=m:=by omega
      have hkp:(0:Int) < k:=by omega
      by_cases hge:p.1<=q.1
      ·refine wpIn_region_quiet_below rfl mixed (by kernel_rfl) ?_
       repeat (quiet_step_in (exact cO _ _ _))
       refine wpQuietIn_nil ?_
       rintro w2 ⟨⟨dq,osq⟩,rfl⟩
       have hb2:=below_regrown v dq osq
       generalize grow (redrawn v dq) osq=w2 at hb2 ⊢
       have hbx2:Boxed w2 w.heap.size 4 (.bool false):=(hb2.block _ hxv.lt).trans hxv
       have g1:=hbx2.cell
       have g2:=hbx2.frozen
       gi_wp2
       refine ⟨.bool false,?_,?_,?_⟩
       ·have hr:Tryz.f99.results= #[.cell 2 4]:=by kernel_rfl
        simp [results,hr,go_sem,(hbx2.set (.bool false)).cell]
       ·have hno:vd ob ps=false:=by
         cases hm:vd ob ps with
         | false=>rfl
         | true=>
           unfold vd at hm
           simp only [Bool.and_eq_true] at hm
           have:=(xj.1 hm.2.1 k hkl).2 q p hk0 (by rw [<-hm1];exact hq) hp
           omega
        rw [hno]
       ·exact (hBv.trans (hb2.mono hBv.size)).setCell (by simp) _
      ·refine wpIn_region_quiet_below rfl mixed (by kernel_rfl) ?_
       repeat (quiet_step_in (exact cO _ _ _))
       refine wpQuietIn_nil ?_
       rintro w2 ⟨⟨dq,osq⟩,rfl⟩
       have hb2:=below_regrown v dq osq
       generalize grow (redrawn v dq) osq=w2 at hb2 ⊢
       gi_wp2
       refine ⟨⟨k+1,by omega,by simp,hBv.trans (hb2.mono hBv.size),(hb2.block _ hxv.lt).trans hxv,?_⟩,by simp [TH];omega⟩
       intro j hj
       by_cases hjk:j < k
       ·exact hW j hjk
       ·obtain rfl:j=k:=by omega
        refine ⟨hok,fun p' q' _ hp' hq'=> ?_⟩
        rw [show j - 1=m by omega,hq] at hp'
        rw [hp] at hq'
        cases hp';cases hq';omega
  ·obtain rfl:k=ps.length:=by omega
   have hp:=fun n=>zL n wr A b off cap ps ss fs hA (fun h=>by have:=hlt h;have:=hB.size;omega) hmax hwf (fun j p hj=>by
    have hb:=hlt (by have:=(List.getElem?_eq_some_iff.1 hj).1;omega)
    obtain ⟨c0,c1,c2,c3⟩:=hat j p hj
    exact ⟨(hB.cell (p:=⟨b,off+j*4,none⟩) hb).trans c0,(hB.cell (p:=⟨b,off+j*4+1,none⟩) hb).trans c1,(hB.cell (p:=⟨b,off+j*4+2,none⟩) hb).trans c2,(hB.cell (p:=⟨b,off+j*4+3,none⟩) hb).trans c3⟩)
   have tyU:Tryz.prog.underlying 161=some (.map 3 3):=by kernel_rfl
   gi_wp2_with (first
    | (gi_at_call 80;refine (hp _).mono ?_;rintro e w2 ⟨rfl,hM2,hB2⟩;obtain ⟨D0,hown,hDs,hDf⟩:=id hM2)
    | (gi_at_range;refine wpListIn_range_own _ rfl _ 161 rfl 3 3 (Maps.int_keyed ty3) tyU _ wr.heap.size (cA ps).length _ rfl hown ?_;intro w3 hrg0 hg0 hs0)
    | gi_in)
   go_frame
   have hMlt:=hM2.lt
   have hs2:=hB2.size
   have hxlt:=hbx.lt
   have hB3:Below w.heap.size w w3:=(hB.trans (hB2.mono hB.size)).grown hg0 (by have:=hB.size;omega) (fun k e=>by cases e)
   have hx3:Boxed w3 w.heap.size 4 (.bool false):=Boxed.kept ((hB2.block _ hxlt).trans hbx) hg0 (fun e=>by cases e)
   have hM3:fo w3 Tryz.prog 3 3 wr.heap.size (cA ps).length (lD ps):=hM2.of_block (hg0.block _ hMlt (fun e=>by cases e))
   refine wpIn_loop (fun a W=> ∃(Ds:List Nat) (left:Lit->Bool) (cnt:Nat) (sx:List Int) (x6 x41 x42 x43 x44 x45 x46 x47:Value),(W.ranges Tryz.prog 3 (plainElem Tryz.prog 3) wr.heap.size w2.heap.size (cA ps).length D0 left cnt/\CollectedI D0 left sx/\(∀x∈sx,(upto (lD ps) (cA ps).length x).contains x=false)/\
     Below w.heap.size w W/\Boxed W w.heap.size 4 (.bool false)/\fo W Tryz.prog 3 3 wr.heap.size (cA ps).length (lD ps)/\w3.heap.size<=W.heap.size/\Ds.Nodup/\ ∀D∈Ds,w3.heap.size<=D/\W.heap[D]? =some (.deferred (some [])))/\
     a={ tmps:= #[.slice A ps.length cap,undef,.pointer (some ⟨w.heap.size,0,none⟩),u3,u4,.map (some wr.heap.size),x6,undef,.slice A ps.length cap,.int .i64 ps.length,.bool false,.slice A ps.length cap,.int .i64 ps.length,.int .i64 ps.length,.bool false,u15,u16,u17,u18,u19,u20,u21,u22,u23,u24,u25,u26,u27,u28,u29,u30,u31,u32,u33,u34,u35,u36,.slice A ps.length cap,.map (some wr.heap.size),.map (some wr.heap.size),.pointer (some ⟨w2.heap.size,0,none⟩),x41,x42,x43,x44,x45,x46,x47,undef,undef,undef,undef],defers:=Ds.map fun D=>{ target:= .collected D,args:= #[] } })
    (fun _ W=>W.rangeLeft wr.heap.size w2.heap.size) ?start ?round
   case start=>
    exact ⟨[],_,_,[],_,_,_,_,_,_,_,_,⟨hrg0,CollectedI.start D0,by simp,hB3,hx3,hM3,Nat.le_refl _,by simp,by simp⟩,rfl⟩
   case round=>
    rintro _ W ⟨Ds,left,cnt,sx,x6,x41,x42,x43,x44,x45,x46,x47,⟨hrg,hC,hsx,hBW,hxW,hMW,hszW,hnd,hDsW⟩,rfl⟩
    gi_wp2_with (first
     | (gi_at_next;refine wpListIn_next_ranges_ii _ rfl _ rfl 3 3 .i64 .i64 (Maps.int_keyed ty3) ty3 ty3 wr.heap.size w2.heap.size _ _ _ _ rfl hrg ?_ ?_)
     | gi_in)
    ·intro hc0 hl0
     have g1:=hxW.cell
     have g2:=hxW.frozen
     gi_wp2
     refine tH (fun V=>Boxed V w.heap.size 4 (.bool true)/\Below w.heap.size w V) w3.heap.size ?_ ?_ Ds _ ⟨hxW.set _,hBW.setCell (by simp) _⟩ hnd ?_
     ·rintro V D ⟨e1,e2⟩ hD hk
      have:=hB3.size
      exact ⟨(World.putObj_heap_other (by omega)).trans e1,e2.trans (belowK_b (w:=w) (Nat.le_refl _) V D _ _ (by omega) hk rfl rfl)⟩
     ·rintro V ⟨e1,e2⟩
      refine ⟨.bool true,?_,?_,e2⟩
      ·have hr:Tryz.f99.results= #[.cell 2 4]:=by kernel_rfl
       simp [results,hr,go_sem,e1.cell]
      ·have hyes:vd ob ps=true:=by
        unfold vd
        simp only [Bool.and_eq_true,decide_eq_true_eq]
        refine ⟨by omega,xj.2 hW,?_⟩
        rw [List.all_eq_true]
        intro x hx
        have h1:has D0 (.int .i64 x)=true:=by rw [(hDf x).1];exact (pN ps x).1 hx
        rw [hsx x ((hC.2 x).2 ⟨h1,hl0 _⟩)];rfl
       rw [hyes]
     ·intro D hD
      exact ⟨(hDsW D hD).1,(Below.heap_setCell _ _ _ _ (by have:=(hDsW D hD).1;have:=hB3.size;have:=hx3.lt;dsimp only;omega)).trans (hDsW D hD).2⟩
    ·intro x c w4 cnt2 hwx hwc hlk hat2 hrg2 hlt2 hg2 hsz2 hen
     have hsz2':w4.heap.size<=W.heap.size:=Nat.le_of_eq hsz2
     clear hsz2
     gi_wp2_with (first
      | (gi_at_call 147;refine (N8 _ _ _ _).mono ?_;rintro e w5 ⟨rfl,hw5⟩)
      | gi_in)
     rw [<-hw5]
     obtain ⟨s,hs⟩: ∃s,s=w4.heap.size:=⟨_,rfl⟩
     have hrlt:w2.heap.size < w3.heap.size:=by omega
     have hrne:wr.heap.size≠w2.heap.size:=by omega
     have hge:W.heap.size<=w4.heap.size:=hg2.size
     have hs5:w5.heap.size=s+3:=by rw [hw5,hs];simp
     have hb45:Below s w4 w5:=by rw [hw5,hs];exact (((Below.refl _ w4).alloc (Nat.le_refl _) _).alloc (by simp) _).alloc (by simp;omega) _
     have hxlt3:=hx3.lt
     have hsW:W.heap.size=s:=by omega
     have old: ∀k,k < s->k≠w2.heap.size->w5.heap[k]? =W.heap[k]? :=fun k hk hne=>(hb45.block k hk).trans (hg2.block k (by omega) (fun e=>hne (Option.some.inj e)))
     have hB5:Below w.heap.size w w5:=((hBW.grown hg2 (by have:=hB3.size;omega) (fun k e=>by cases e;have:=hB.size;omega)).trans (hb45.mono (by have:=hB3.size;omega)))
     have hx5:Boxed w5 w.heap.size 4 (.bool false):=(old _ (by omega) (by omega)).trans hxW
     have hM5:fo w5 Tryz.prog 3 3 wr.heap.size (cA ps).length (lD ps):=hMW.of_block (old _ (by omega) (by omega))
     have hrg5:w5.ranges Tryz.prog 3 (plainElem Tryz.prog 3) wr.heap.size w2.heap.size (cA ps).length D0 (fun z=>left z&& !z.sameKey (.int .i64 x)) cnt2:=by rw [hw5];exact ((hrg2.alloc _).alloc _).alloc _
     have b6:Boxed w5 s 3 (.int .i64 x):=by rw [hw5,hs];exact ((Boxed.new w4 3 _).alloc _).alloc _
     have bm:Boxed w5 (s+1) 161 (.map (some wr.heap.size)):=by rw [hw5,hs];have:=(Boxed.new (w4.alloc (.cells #[.int .i64 x] 3)) 161 (.map (some wr.heap.size))).alloc (.cells #[.int .i64 x] 3);simpa using this
     have bf:Boxed w5 (s+2) 3 (.int .i64 x):=by rw [hw5,hs];have:=Boxed.new ((w4.alloc (.cells #[.int .i64 x] 3)).alloc (.cells #[.map (some wr.heap.size)] 161)) 3 (.int .i64 x);simpa using this
     have hD5: ∀D∈Ds,w3.heap.size<=D/\D < s/\w5.heap[D]? =some (.deferred (some [])):=fun D hD=>by
      have h1:=hDsW D hD
      have h2:=(Array.getElem?_eq_some_iff.1 h1.2).1
      exact ⟨h1.1,by omega,(old D (by omega) (by omega)).trans h1.2⟩
     have hxk:x∈cA ps:=(pN ps x).2 (by rw [<-(hDf x).1];exact has_true_of_atKey hat2)
     have hs4':w4.heap.size=s:=hs.symm
     rw [hs4']
     clear hw5
     clear hs4'
     clear hs
     refine AN rfl h1 (gf:=202) (lb:= #[.pointer (some ⟨s+1,0,none⟩),.pointer (some ⟨s+2,0,none⟩)]) rfl trivial (enters_of (f:=Tryz.f202) (by kernel_rfl) (by kernel_rfl) (by kernel_rfl))
      (encs:=fun x:Int=> #[.int .i64 x]) (Kp:=Below w5.heap.size) (Chg:=fun A B=> ∃v,B=A.setCell ⟨s+2,0,none⟩ v) (S:=fun xs=>xs=upto (lD ps) (cA ps).length x) (Sp:=fun pre=>pre <+:upto (lD ps) (cA ps).length x)
      (fun l J Jx V hV hJ hJx hY h0=>Rc (nF - 1) l (s+1) (s+2) wr.heap.size w5.heap.size (cA ps).length (lD ps) x hwx (MV hwf) J Jx hJ hJx (by omega) (by omega) (by omega) (by omega) (by omega) (fun pre x W1=>hY pre x W1 trivial) V
        ((hV.block _ (by omega)).trans bm) ((hV.block _ (by omega)).trans bf) (hM5.below (by omega) hV) (Nat.le_trans (Bk ps) hmax) h0)
      ?c1 belowK_t (belowK_b (Nat.le_refl _)) (fun _=>rfl)
      (fun pre V=>Below (s+1) w5 V/\x∉pre)
      (fun c pre V=>((c= .ret/\x∈pre)/\Boxed V w.heap.size 4 (.bool false))/\Below w.heap.size w V/\ ∀k,w.heap.size < k->k < s->V.heap[k]? =w5.heap[k]?)
      ?c2 ?c3 ?c4 ?c5 ⟨Below.refl _ _,by simp⟩
      (fun z=>{ tmps:= #[.slice A ps.length cap,undef,.pointer (some ⟨w.heap.size,0,none⟩),u3,u4,.map (some wr.heap.size),.pointer (some ⟨s,0,none⟩),.int .i64 z,.slice A ps.length cap,.int .i64 ps.length,.bool false,.slice A ps.length cap,.int .i64 ps.length,.int .i64 ps.length,.bool false,u15,u16,u17,u18,u19,u20,u21,u22,u23,u24,u25,u26,u27,u28,u29,u30,u31,u32,u33,u34,u35,u36,.slice A ps.length cap,.map (some wr.heap.size),.map (some wr.heap.size),.pointer (some ⟨w2.heap.size,0,none⟩),.tuple #[.bool true,.int .i64 x,.int .i64 c],.bool true,.tuple #[.int .i64 x,.int .i64 c],.int .i64 x,.map (some wr.heap.size),.int .i64 x,
        .func (.func 202) #[] #[.pointer (some ⟨s+1,0,none⟩),.pointer (some ⟨s+2,0,none⟩)],.int .i64 z,undef,undef,undef],defers:=[] }) ?assign ?body ?done ?stop
     case c1=>rintro A B k o ⟨v,rfl⟩ hk ho hn;rw [Below.heap_setCell _ _ _ _ (by dsimp only;omega)];exact ho
     case c2=>
      refine OwnFrom.two (fun st X Y row hst hg hr=>⟨hst.1.grown hg (by have:=hst.1.size;omega) (fun k e=>by have:=(hr k e).1;omega),hst.2⟩)
     case c3=>
      intro c
      refine OwnFrom.two (fun st X Y row hst hg hr=>⟨⟨hst.1.1,hst.1.2.kept hg (fun e=>by have:=(hr _ e.symm).1;omega)⟩,hst.2.1.grown hg (by have:=hst.2.1.size;omega) (fun k e=>by have:=(hr k e).1;omega),fun k h1 h2=> ?_⟩)
      have h3:=hst.2.2 k h1 h2
      have hk:k < X.heap.size:=by
       have:k < w5.heap.size:=by omega
       rw [Array.getElem?_eq_getElem this] at h3
       exact (Array.getElem?_eq_some_iff.1 h3).1
      exact (hg.block k hk (fun e=>by have:=(hr _ e.symm).1;omega)).trans h3
     case c4=>
      rintro st X Y ⟨v,rfl⟩ ⟨i1,i2⟩
      exact ⟨i1.setCell (by dsimp only;omega) _,i2⟩
     case c5=>
      rintro c st X Y ⟨v,rfl⟩ ⟨⟨i1,i2⟩,i3,i4⟩
      exact ⟨⟨i1,(Below.heap_setCell _ _ _ _ (by dsimp only;omega)).trans i2⟩,i3.setCell (by dsimp only;omega) _,fun k h1 h2=>(Below.heap_setCell _ _ _ _ (by dsimp only;omega)).trans (i4 k h1 h2)⟩
     case assign=>
      intro l z W K hK
      dsimp only at hK ⊢
      gi_wp2
      exact hK
     case body=>
      rintro l pre z V ⟨i1,i2⟩
      dsimp only
      have y6:Boxed V s 3 (.int .i64 x):=(i1.block _ (by omega)).trans b6
      have yx:Boxed V w.heap.size 4 (.bool false):=(i1.block _ (by omega)).trans hx5
      have j1:=y6.cell
      have j2:=yx.cell
      have j3:=yx.frozen
      by_cases hzx:z=x
      ·gi_wp2
       exact ⟨(KeepsOthers.setCell V ⟨w.heap.size,0,none⟩ (.bool false)).from _,⟨⟨rfl,by simp [hzx]⟩,yx.set _⟩,(hB5.trans (i1.mono (by omega))).setCell (p:=⟨w.heap.size,0,none⟩) (by simp) _,fun k h1 h2=>(Below.heap_setCell _ _ _ _ (by dsimp only;omega)).trans (i1.block k (by omega))⟩
      ·gi_wp2
       exact ⟨KeepsFrom.refl _ _,Below.refl _ _,i1,by simp only [List.mem_append,List.mem_singleton,not_or];exact ⟨i2,fun e=>hzx e.symm⟩⟩
     case done=>
      rintro D xs V hD rfl ⟨i1,i2⟩ hK
      have hrg6:V.ranges Tryz.prog 3 (plainElem Tryz.prog 3) wr.heap.size w2.heap.size (cA ps).length D0 (fun z=>left z&& !z.sameKey (.int .i64 x)) cnt2:=by
       obtain ⟨es,clock,since,seen,c0,r1,r2,r3,r4,r5,r6⟩:=hrg5
       exact ⟨es,clock,since,seen,c0,(i1.block _ (by omega)).trans r1,r2,r3,r4,(i1.block _ (by omega)).trans r5,r6⟩
      have hx6:Boxed V w.heap.size 4 (.bool false):=(i1.block _ (by omega)).trans hx5
      refine ⟨⟨D::Ds,_,cnt2,sx++[x],_,_,_,_,_,_,_,_,⟨hrg6,hC.step hlk hat2,?_,hB5.trans (i1.mono (by omega)),hx6,hM5.of_block (i1.block _ (by omega)),?_,?_,?_⟩,rfl⟩,?_⟩
      ·intro y hy
       rcases List.mem_append.1 hy with h | h
       ·exact hsx y h
       ·simp only [List.mem_singleton] at h
        subst h
        simpa using i2
      ·have:=i1.size;omega
      ·rw [List.nodup_cons]
       exact ⟨fun h=>by have:=(hD5 D h).2.1;omega,hnd⟩
      ·intro D' hD'
       rcases List.mem_cons.1 hD' with rfl | h
       ·exact ⟨by omega,hK⟩
       ·obtain ⟨r1,r2,r3⟩:=hD5 D' h
        exact ⟨r1,(i1.block _ (by omega)).trans r3⟩
      ·rw [hrg6.left_eq,hrg.left_eq];exact hlt2
     case stop=>
      rintro D c pre V hD hpre ⟨⟨⟨rfl,i1⟩,i2⟩,i3,i4⟩ hK
      gi_wp2
      refine tH (fun V=>Boxed V w.heap.size 4 (.bool false)/\Below w.heap.size w V) w3.heap.size ?_ ?_ (D::Ds) _ ⟨i2,i3⟩ ?_ ?_
      ·rintro V D ⟨e1,e2⟩ hD hk
       have:=hB3.size
       exact ⟨(World.putObj_heap_other (by omega)).trans e1,e2.trans (belowK_b (w:=w) (Nat.le_refl _) V D _ _ (by omega) hk rfl rfl)⟩
      ·rintro V ⟨e1,e2⟩
       refine ⟨.bool false,?_,?_,e2⟩
       ·have hr:Tryz.f99.results= #[.cell 2 4]:=by kernel_rfl
        simp [results,hr,go_sem,e1.cell]
       ·have hno:vd ob ps=false:=by
         cases hm:vd ob ps with
         | false=>rfl
         | true=>
           unfold vd at hm
           simp only [Bool.and_eq_true,List.all_eq_true] at hm
           have h1:=hm.2.2 x hxk
           have h2:(upto (lD ps) (cA ps).length x).contains x=true:=by simpa using hpre.subset i1
           rw [h2] at h1;cases h1
        rw [hno]
      ·rw [List.nodup_cons]
       exact ⟨fun h=>by have:=(hD5 D h).2.1;omega,hnd⟩
      ·intro D' hD'
       rcases List.mem_cons.1 hD' with rfl | h
       ·exact ⟨by omega,hK⟩
       ·obtain ⟨r1,r2,r3⟩:=hD5 D' h
        exact ⟨r1,(i4 D' (by have:=hB3.size;omega) r2).trans r3⟩
end Go.AM
