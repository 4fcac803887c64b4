/- Walk by hand: tree.May: rows, one by one; then each node's way up, whatever order the map gives. -/
import Derived.Lib.QuietBelowIn
import Derived.Test.YtgoenohknokcmaaGreatHd
open Go.Proofs.Tryz renaming prog->ab,f99->bs
open Go.World renaming putObj_heap_other->ad,cell?->bx
open Nat renaming le_refl->a1
open Bool renaming and_eq_true->a2
open Go.Fence renaming wide->bd
set_option linter.unusedVariables false
set_option linter.unusedSimpArgs false
set_option maxRecDepth 100000
namespace Go.AM
open Go.Proofs Go.RowKit Go.Shelf Go.Maps Go.Sort
 attribute [local go_sem] Oper.semAt_some
@[local go_sem] theorem aaQ {P:Program} {w:World} {a:Addr} {m:Mode} (k:FloatKind) (x:Nat):(store a (.float k x) m).run P w=stored P w a (.float k x) m:=run_store P w a _ m rfl
theorem yz {n:Nat} {P:Program} {fn:Func} {tmps:Array Value} {R:Ending->World->Prop} (g:World->Prop) (lo:Nat) (f: ∀(W:World) (D:Nat),g W->lo<=D->W.heap[D]? =some (.deferred (some []))->g (W.putObj D (.deferred none)))
  (a: ∀W,g W->LeavesInM bd n P fn tmps R [] .returning W): ∀(d:List Nat) (W:World),g W->d.Nodup->(∀D∈d,lo<=D/\W.heap[D]? =some (.deferred (some [])))->LeavesInM bd n P fn tmps R (d.map λD=>{ target:= .collected D,args:= #[] }) .returning W
 | [],W,h,_,_=>a W h
 | D::d,W,h,c,i=>by
   obtain ⟨h1,h2⟩:=i D (by simp)
   rw [List.nodup_cons] at c
   refine ⟨by simp,.inl ⟨D,_,rfl,run_takeDeferred h2,yz g lo f a d _ (f W D h h1 h2) c.2 λj b=> ?_⟩⟩
   have:=i j (by simp [b])
   exact ⟨this.1,(ad (λe=>c.1 (by first | exact e▸b | exact e.symm▸b))).trans this.2⟩
set_option maxHeartbeats 4000000 in
theorem aek (nF:Nat) (h1:1<=nF) (w:World) (A:Option Addr) (b off cap:Nat) (ps:List (Int×Int)) (ss:Nat->ByteArray) (fs:Nat->Nat) (ob:Nat->Bool) (hA:0 < ps.length->A=some ⟨b,off,none⟩) (be:0 < ps.length->b < w.heap.size) (ao:ps.length<=2 ^ 40)
  (c8: ∀p∈ps,(Lit.int .i64 p.1).wf=true/\(Lit.int .i64 p.2).wf=true) (a6:DZ w b off ps ss fs)
  (b4: ∀(j:Nat) (p:Int×Int) (W:World),ps[j]? =some p->Calls ab 70 #[.agg #[.int .i64 p.1,.int .i64 p.2,.string (ss j),.float .f64 (fs j)]] W λe W'=>e= .returned (.bool (ob j))/\Below W.heap.size W W'):
  CallsIn bd nF ab 99 #[.slice A ps.length cap] w λe W'=>e= .returned (.bool (zF ob ps))/\Below w.heap.size w W':=by
 have hH: ∀f,bd.fn f:= λ_=>trivial
 have gE:bd.depth.isSome=false:=rfl
 have hf:ab.funcs[99]? =some bs:=by kernel_rfl
 have hn:bs.ntmps=52:=by kernel_rfl
 have Z:ab.underlying 3=some (.int .i64):=by kernel_rfl
 have mixed:ab.follows .mixedOrders=true:=by kernel_rfl
 refine callsIn_of_wp_marks hf rfl trivial ?_ rfl
 simp only [hn,List.size_toArray,List.length_cons,List.length_nil,Nat.reduceAdd,Nat.reduceSub,Array.replicate_succ,Array.replicate_zero,List.push_toArray,List.append_toArray,List.nil_append,List.cons_append]
 by_cases hlen:(ps.length:Int) > 2000
 ·gi_wp2
  refine ⟨.bool false,?_,?_,(Below.refl _ w).alloc (a1 _) _⟩
  ·have hr:bs.results= #[.cell 2 4]:=by kernel_rfl
   simp [results,hr,go_sem]
  ·have:zF ob ps=false:=by unfold zF;rw [decide_eq_false (by omega)];rfl
   rw [this]
 gi_wp2
 gi_loopw [13] (λi wr=> ∃k:Nat,k<=ps.length/\i= .int .i64 k/\Below w.heap.size w wr/\Boxed wr w.heap.size 4 (.bool false)/\adY ob ps k)
  (λi _=>ps.length - (Yg i).toNat)
 case atStart=>exact ⟨0,Nat.zero_le _,rfl,(Below.refl _ w).alloc (a1 _) _,Boxed.new w 4 _,λj hj=>by omega⟩
 case round=>
  obtain ⟨k,hk,rfl,H,a7,hW⟩:=hrel
  by_cases bb:k < ps.length
  ·obtain ⟨p,hp⟩: ∃p,ps[k]? =some p:=⟨ps[k],List.getElem?_eq_getElem bb⟩
   obtain ⟨c0,c1,c2,c3⟩:=a6 k p hp
   have O:=be (by omega)
   obtain rfl:=hA (by omega)
   have d0:=(H.cell (p:=⟨b,off+k*4,none⟩) O).trans c0
   have d1:=(H.cell (p:=⟨b,off+k*4+1,none⟩) O).trans c1
   have d2:=(H.cell (p:=⟨b,off+k*4+2,none⟩) O).trans c2
   have d3:=(H.cell (p:=⟨b,off+k*4+3,none⟩) O).trans c3
   obtain ⟨v,hv⟩: ∃v,v=wr.alloc (.cells #[.int .i64 p.1,.int .i64 p.2,.string (ss k),.float .f64 (fs k)] 72):=⟨_,rfl⟩
   have u:Below w.heap.size w v:=hv▸H.alloc H.size _
   have F:Boxed v w.heap.size 4 (.bool false):=hv▸a7.alloc _
   have T:v.heap[wr.heap.size]? =some (.cells #[.int .i64 p.1,.int .i64 p.2,.string (ss k),.float .f64 (fs k)] 72 (0,0)):=hv▸World.alloc_heap_new wr _
   have v0:v.cell? ⟨wr.heap.size,0,none⟩=some (.int .i64 p.1):=by simp [bx,T]
   have v1:v.cell? ⟨wr.heap.size,1,none⟩=some (.int .i64 p.2):=by simp [bx,T]
   have v2:v.cell? ⟨wr.heap.size,2,none⟩=some (.string (ss k)):=by simp [bx,T]
   have v3:v.cell? ⟨wr.heap.size,3,none⟩=some (.float .f64 (fs k)):=by simp [bx,T]
   have k0:=cell_regrown v0
   have k1:=cell_regrown v1
   have k2:=cell_regrown v2
   have k3:=cell_regrown v3
   have cO: ∀n d os,CallsIn bd n ab 70 #[.agg #[.int .i64 p.1,.int .i64 p.2,.string (ss k),.float .f64 (fs k)]] (grow (redrawn v d) os) λe w''=>e= .returned (.bool (ob k))/\ ∃p:Regrown,w''=grow (redrawn v p.d) p.os:= λn d os=>CallsIn.regrown_of (callsIn_wide.2 (b4 k p _ hp))
   cases hok:ob k with
   | false=>
     rw [hok] at cO
     gi_wp2
     rw [<-hv]
     clear hv
     refine wpIn_region_quiet_below rfl mixed (by kernel_rfl) ?_
     repeat (quiet_step_in (exact cO _ _ _))
     refine wpQuietIn_nil ?_
     rintro w2 ⟨⟨N,t⟩,rfl⟩
     have g:=below_regrown v N t
     generalize grow (redrawn v N) t=w2 at g ⊢
     have r:Boxed w2 w.heap.size 4 (.bool false):=(g.block _ F.lt).trans F
     have g1:=r.cell
     have g2:=r.frozen
     gi_wp2
     refine ⟨.bool false,?_,?_,?_⟩
     ·have hr:bs.results= #[.cell 2 4]:=by kernel_rfl
      simp [results,hr,go_sem,(r.set (.bool false)).cell]
     ·have P:zF ob ps=false:=by
       cases hm:zF ob ps with
       | false=>rfl
       | true=>
         unfold zF at hm
         simp only [a2] at hm
         exact absurd ((zU.1 hm.2.1 k bb).1) (by simp [hok])
      rw [P]
     ·exact (u.trans (g.mono u.size)).setCell (by simp) _
   | true=>
     rw [hok] at cO
     gi_wp2
     rw [<-hv]
     clear hv
     rcases Nat.eq_zero_or_pos k with rfl | e8
     ·refine wpIn_region_quiet_below rfl mixed (by kernel_rfl) ?_
      repeat (quiet_step_in (exact cO _ _ _))
      refine wpQuietIn_nil ?_
      rintro w2 ⟨⟨N,t⟩,rfl⟩
      have g:=below_regrown v N t
      generalize grow (redrawn v N) t=w2 at g ⊢
      gi_wp2
      refine ⟨⟨0+1,by omega,by simp,u.trans (g.mono u.size),(g.block _ F.lt).trans F,?_⟩,by simp [Yg];omega⟩
      intro j hj
      obtain rfl:j=0:=by omega
      exact ⟨hok,λ_ _ h=>absurd h (by omega)⟩
     ·obtain ⟨m,fb⟩: ∃m,m+1=k:=⟨k - 1,by omega⟩
      obtain ⟨q,hq⟩: ∃q,ps[m]? =some q:=⟨ps[m]'(by omega),List.getElem?_eq_getElem _⟩
      obtain ⟨q0,q1,q2,q3⟩:=a6 m q hq
      have z0:=cell_regrown ((u.cell (p:=⟨b,off+m*4,none⟩) O).trans q0)
      have hS:IntKind.i64.wrap ((k:Int) - 1)=(m:Int):=by rw [IntKind.wrap_i64];omega
      have hL:(m:Int) < ps.length:=by omega
      have gT:(0:Int)<=m:=by omega
      have hI:(0:Int) < k:=by omega
      by_cases e6:p.1<=q.1
      ·refine wpIn_region_quiet_below rfl mixed (by kernel_rfl) ?_
       repeat (quiet_step_in (exact cO _ _ _))
       refine wpQuietIn_nil ?_
       rintro w2 ⟨⟨N,t⟩,rfl⟩
       have g:=below_regrown v N t
       generalize grow (redrawn v N) t=w2 at g ⊢
       have r:Boxed w2 w.heap.size 4 (.bool false):=(g.block _ F.lt).trans F
       have g1:=r.cell
       have g2:=r.frozen
       gi_wp2
       refine ⟨.bool false,?_,?_,?_⟩
       ·have hr:bs.results= #[.cell 2 4]:=by kernel_rfl
        simp [results,hr,go_sem,(r.set (.bool false)).cell]
       ·have P:zF ob ps=false:=by
         cases hm:zF ob ps with
         | false=>rfl
         | true=>
           unfold zF at hm
           simp only [a2] at hm
           have:=(zU.1 hm.2.1 k bb).2 q p e8 (by rw [<-fb];exact hq) hp
           omega
        rw [P]
       ·exact (u.trans (g.mono u.size)).setCell (by simp) _
      ·refine wpIn_region_quiet_below rfl mixed (by kernel_rfl) ?_
       repeat (quiet_step_in (exact cO _ _ _))
       refine wpQuietIn_nil ?_
       rintro w2 ⟨⟨N,t⟩,rfl⟩
       have g:=below_regrown v N t
       generalize grow (redrawn v N) t=w2 at g ⊢
       gi_wp2
       refine ⟨⟨k+1,by omega,by simp,u.trans (g.mono u.size),(g.block _ F.lt).trans F,?_⟩,by simp [Yg];omega⟩
       intro j hj
       by_cases e7:j < k
       ·exact hW j e7
       ·obtain rfl:j=k:=by omega
        refine ⟨hok,λp' q' _ ca cd=> ?_⟩
        rw [show j - 1=m by omega,hq] at ca
        rw [hp] at cd
        cases ca;cases cd;omega
  ·obtain rfl:k=ps.length:=by omega
   have hp:= λn=>DT n wr A b off cap ps ss fs hA (λh=>by have:=be h;have:=H.size;omega) ao c8 (λj p hj=>by
    have hb:=be (by have:=(List.getElem?_eq_some_iff.1 hj).1;omega)
    obtain ⟨c0,c1,c2,c3⟩:=a6 j p hj
    exact ⟨(H.cell (p:=⟨b,off+j*4,none⟩) hb).trans c0,(H.cell (p:=⟨b,off+j*4+1,none⟩) hb).trans c1,(H.cell (p:=⟨b,off+j*4+2,none⟩) hb).trans c2,(H.cell (p:=⟨b,off+j*4+3,none⟩) hb).trans c3⟩)
   have f7:ab.underlying 161=some (.map 3 3):=by kernel_rfl
   gi_wp2_with (first
    | (gi_at_call 80;refine (hp _).mono ?_;rintro e w2 ⟨rfl,a5,a3⟩;obtain ⟨D0,b5,hd,bR⟩:=id a5)
    | (gi_at_range;refine wpListIn_range_own _ rfl _ 161 rfl 3 3 (Maps.int_keyed Z) f7 _ wr.heap.size (dE ps).length _ rfl b5 ?_;intro w3 ci a8 hN)
    | gi_in)
   go_frame
   have b0:=a5.lt
   have hO:=a3.size
   have dd:=a7.lt
   have I:Below w.heap.size w w3:=(H.trans (a3.mono H.size)).grown a8 (by have:=H.size;omega) (λk e=>by cases e)
   have br:Boxed w3 w.heap.size 4 (.bool false):=Boxed.kept ((a3.block _ dd).trans a7) a8 (λe=>by cases e)
   have e3:iy w3 ab 3 3 wr.heap.size (dE ps).length (ph ps):=a5.of_block (a8.block _ b0 (λe=>by cases e))
   refine wpIn_loop (λa W=> ∃(Ds:List Nat) (left:Lit->Bool) (cnt:Nat) (sx:List Int) (x6 d6 d7 d8 d9 eg ek el:Value),(W.ranges ab 3 (plainElem ab 3) wr.heap.size w2.heap.size (dE ps).length D0 left cnt/\CollectedI D0 left sx/\(∀x∈sx,(upto (ph ps) (dE ps).length x).contains x=false)/\
     Below w.heap.size w W/\Boxed W w.heap.size 4 (.bool false)/\iy W ab 3 3 wr.heap.size (dE ps).length (ph ps)/\w3.heap.size<=W.heap.size/\Ds.Nodup/\ ∀D∈Ds,w3.heap.size<=D/\W.heap[D]? =some (.deferred (some [])))/\
     a={ tmps:= #[.slice A ps.length cap,undef,.pointer (some ⟨w.heap.size,0,none⟩),u3,u4,.map (some wr.heap.size),x6,undef,.slice A ps.length cap,.int .i64 ps.length,.bool false,.slice A ps.length cap,.int .i64 ps.length,.int .i64 ps.length,.bool false,u15,u16,u17,u18,u19,u20,u21,u22,u23,u24,u25,u26,u27,u28,u29,u30,u31,u32,u33,u34,u35,u36,.slice A ps.length cap,.map (some wr.heap.size),.map (some wr.heap.size),.pointer (some ⟨w2.heap.size,0,none⟩),d6,d7,d8,d9,eg,ek,el,undef,undef,undef,undef],defers:=Ds.map λD=>{ target:= .collected D,args:= #[] } })
    (λ_ W=>W.rangeLeft wr.heap.size w2.heap.size) ?start ?round
   case start=>
    exact ⟨[],_,_,[],_,_,_,_,_,_,_,_,⟨ci,CollectedI.start D0,by simp,I,br,e3,a1 _,by simp,by simp⟩,rfl⟩
   case round=>
    rintro _ W ⟨Ds,left,cnt,sx,x6,d6,d7,d8,d9,eg,ek,el,⟨ce,hC,co,bO,U,e4,g4,bi,L⟩,rfl⟩
    gi_wp2_with (first
     | (gi_at_next;refine wpListIn_next_ranges_ii _ rfl _ rfl 3 3 .i64 .i64 (Maps.int_keyed Z) Z Z wr.heap.size w2.heap.size _ _ _ _ rfl ce ?_ ?_)
     | gi_in)
    ·intro hF e9
     have g1:=U.cell
     have g2:=U.frozen
     gi_wp2
     refine yz (λV=>Boxed V w.heap.size 4 (.bool true)/\Below w.heap.size w V) w3.heap.size ?_ ?_ Ds _ ⟨U.set _,bO.setCell (by simp) _⟩ bi ?_
     ·rintro V D ⟨e1,e2⟩ Q hk
      have:=I.size
      exact ⟨(ad (by omega)).trans e1,e2.trans (belowK_b (w:=w) (a1 _) V D _ _ (by omega) hk rfl rfl)⟩
     ·rintro V ⟨e1,e2⟩
      refine ⟨.bool true,?_,?_,e2⟩
      ·have hr:bs.results= #[.cell 2 4]:=by kernel_rfl
       simp [results,hr,go_sem,e1.cell]
      ·have dl:zF ob ps=true:=by
        unfold zF
        simp only [a2,decide_eq_true_eq]
        refine ⟨by omega,zU.2 hW,?_⟩
        rw [List.all_eq_true]
        intro x hx
        have h1:has D0 (.int .i64 x)=true:=by rw [(bR x).1];exact (uy ps x).1 hx
        rw [co x ((hC.2 x).2 ⟨h1,e9 _⟩)];rfl
       rw [dl]
     ·intro D Q
      exact ⟨(L D Q).1,(Below.heap_setCell _ _ _ _ (by have:=(L D Q).1;have:=I.size;have:=br.lt;dsimp only;omega)).trans (L D Q).2⟩
    ·intro x c w4 M f1 hR fa al ck b3 a9 aT hG
     have fH:w4.heap.size<=W.heap.size:=Nat.le_of_eq aT
     clear aT
     gi_wp2_with (first
      | (gi_at_call 147;refine (Tm _ _ _ _).mono ?_;rintro e G ⟨rfl,E⟩)
      | gi_in)
     rw [<-E]
     obtain ⟨s,hs⟩: ∃s,s=w4.heap.size:=⟨_,rfl⟩
     have g0:w2.heap.size < w3.heap.size:=by omega
     have g3:wr.heap.size≠w2.heap.size:=by omega
     have e6:W.heap.size<=w4.heap.size:=a9.size
     have hP:G.heap.size=s+3:=by rw [E,hs];simp
     have am:Below s w4 G:=by rw [E,hs];exact (((Below.refl _ w4).alloc (a1 _) _).alloc (by simp) _).alloc (by simp;omega) _
     have f4:=br.lt
     have hQ:W.heap.size=s:=by omega
     have old: ∀k,k < s->k≠w2.heap.size->G.heap[k]? =W.heap[k]? := λk hk fd=>(am.block k hk).trans (a9.block k (by omega) (λe=>fd (Option.some.inj e)))
     have bM:Below w.heap.size w G:=((bO.grown a9 (by have:=I.size;omega) (λk e=>by cases e;have:=H.size;omega)).trans (am.mono (by have:=I.size;omega)))
     have c9:Boxed G w.heap.size 4 (.bool false):=(old _ (by omega) (by omega)).trans U
     have bY:iy G ab 3 3 wr.heap.size (dE ps).length (ph ps):=e4.of_block (old _ (by omega) (by omega))
     have cl:G.ranges ab 3 (plainElem ab 3) wr.heap.size w2.heap.size (dE ps).length D0 (λz=>left z&& !z.sameKey (.int .i64 x)) M:=by rw [E];exact ((ck.alloc _).alloc _).alloc _
     have b6:Boxed G s 3 (.int .i64 x):=by rw [E,hs];exact ((Boxed.new w4 3 _).alloc _).alloc _
     have bm:Boxed G (s+1) 161 (.map (some wr.heap.size)):=by rw [E,hs];have:=(Boxed.new (w4.alloc (.cells #[.int .i64 x] 3)) 161 (.map (some wr.heap.size))).alloc (.cells #[.int .i64 x] 3);simpa using this
     have bf:Boxed G (s+2) 3 (.int .i64 x):=by rw [E,hs];have:=Boxed.new ((w4.alloc (.cells #[.int .i64 x] 3)).alloc (.cells #[.map (some wr.heap.size)] 161)) 3 (.int .i64 x);simpa using this
     have R: ∀D∈Ds,w3.heap.size<=D/\D < s/\G.heap[D]? =some (.deferred (some [])):= λD Q=>by
      have h1:=L D Q
      have h2:=(Array.getElem?_eq_some_iff.1 h1.2).1
      exact ⟨h1.1,by omega,(old D (by omega) (by omega)).trans h1.2⟩
     have f3:x∈dE ps:=(uy ps x).2 (by rw [<-(bR x).1];exact has_true_of_atKey al)
     have aB:w4.heap.size=s:=hs.symm
     rw [aB]
     clear E
     clear aB
     clear hs
     refine Fw rfl h1 (gf:=202) (lb:= #[.pointer (some ⟨s+1,0,none⟩),.pointer (some ⟨s+2,0,none⟩)]) rfl trivial (enters_of (f:=Tryz.f202) (by kernel_rfl) (by kernel_rfl) (by kernel_rfl))
      (encs:= λx:Int=> #[.int .i64 x]) (Kp:=Below G.heap.size) (Chg:= λA B=> ∃v,B=A.setCell ⟨s+2,0,none⟩ v) (S:= λxs=>xs=upto (ph ps) (dE ps).length x) (Sp:= λpre=>pre <+:upto (ph ps) (dE ps).length x)
      (λl J Jx V hV hJ eZ hY h0=>V9 (nF - 1) l (s+1) (s+2) wr.heap.size G.heap.size (dE ps).length (ph ps) x f1 (SB c8) J Jx hJ eZ (by omega) (by omega) (by omega) (by omega) (by omega) (λpre x W1=>hY pre x W1 trivial) V
        ((hV.block _ (by omega)).trans bm) ((hV.block _ (by omega)).trans bf) (bY.below (by omega) hV) (Nat.le_trans (FN ps) ao) h0)
      ?c1 belowK_t (belowK_b (a1 _)) (λ_=>rfl)
      (λpre V=>Below (s+1) G V/\x∉pre)
      (λc pre V=>((c= .ret/\x∈pre)/\Boxed V w.heap.size 4 (.bool false))/\Below w.heap.size w V/\ ∀k,w.heap.size < k->k < s->V.heap[k]? =G.heap[k]?)
      ?c2 ?c3 ?c4 ?c5 ⟨Below.refl _ _,by simp⟩
      (λz=>{ tmps:= #[.slice A ps.length cap,undef,.pointer (some ⟨w.heap.size,0,none⟩),u3,u4,.map (some wr.heap.size),.pointer (some ⟨s,0,none⟩),.int .i64 z,.slice A ps.length cap,.int .i64 ps.length,.bool false,.slice A ps.length cap,.int .i64 ps.length,.int .i64 ps.length,.bool false,u15,u16,u17,u18,u19,u20,u21,u22,u23,u24,u25,u26,u27,u28,u29,u30,u31,u32,u33,u34,u35,u36,.slice A ps.length cap,.map (some wr.heap.size),.map (some wr.heap.size),.pointer (some ⟨w2.heap.size,0,none⟩),.tuple #[.bool true,.int .i64 x,.int .i64 c],.bool true,.tuple #[.int .i64 x,.int .i64 c],.int .i64 x,.map (some wr.heap.size),.int .i64 x,
        .func (.func 202) #[] #[.pointer (some ⟨s+1,0,none⟩),.pointer (some ⟨s+2,0,none⟩)],.int .i64 z,undef,undef,undef],defers:=[] }) ?assign ?body ?done ?stop
     case c1=>rintro A B k o ⟨v,rfl⟩ hk ho hn;rw [Below.heap_setCell _ _ _ _ (by dsimp only;omega)];exact ho
     case c2=>
      refine OwnFrom.two (λst X Y row C hg hr=>⟨C.1.grown hg (by have:=C.1.size;omega) (λk e=>by have:=(hr k e).1;omega),C.2⟩)
     case c3=>
      intro c
      refine OwnFrom.two (λst X Y row C hg hr=>⟨⟨C.1.1,C.1.2.kept hg (λe=>by have:=(hr _ e.symm).1;omega)⟩,C.2.1.grown hg (by have:=C.2.1.size;omega) (λk e=>by have:=(hr k e).1;omega),λk h1 h2=> ?_⟩)
      have h3:=C.2.2 k h1 h2
      have hk:k < X.heap.size:=by
       have:k < G.heap.size:=by omega
       rw [Array.getElem?_eq_getElem this] at h3
       exact (Array.getElem?_eq_some_iff.1 h3).1
      exact (hg.block k hk (λe=>by have:=(hr _ e.symm).1;omega)).trans h3
     case c4=>
      rintro st X Y ⟨v,rfl⟩ ⟨i1,i2⟩
      exact ⟨i1.setCell (by dsimp only;omega) _,i2⟩
     case c5=>
      rintro c st X Y ⟨v,rfl⟩ ⟨⟨i1,i2⟩,i3,i4⟩
      exact ⟨⟨i1,(Below.heap_setCell _ _ _ _ (by dsimp only;omega)).trans i2⟩,i3.setCell (by dsimp only;omega) _,λk h1 h2=>(Below.heap_setCell _ _ _ _ (by dsimp only;omega)).trans (i4 k h1 h2)⟩
     case assign=>
      intro l z W K hK
      dsimp only at hK ⊢
      gi_wp2
      exact hK
     case body=>
      rintro l pre z V ⟨i1,i2⟩
      dsimp only
      have y6:Boxed V s 3 (.int .i64 x):=(i1.block _ (by omega)).trans b6
      have yx:Boxed V w.heap.size 4 (.bool false):=(i1.block _ (by omega)).trans c9
      have j1:=y6.cell
      have j2:=yx.cell
      have j3:=yx.frozen
      by_cases dO:z=x
      ·gi_wp2
       exact ⟨(KeepsOthers.setCell V ⟨w.heap.size,0,none⟩ (.bool false)).from _,⟨⟨rfl,by simp [dO]⟩,yx.set _⟩,(bM.trans (i1.mono (by omega))).setCell (p:=⟨w.heap.size,0,none⟩) (by simp) _,λk h1 h2=>(Below.heap_setCell _ _ _ _ (by dsimp only;omega)).trans (i1.block k (by omega))⟩
      ·gi_wp2
       exact ⟨KeepsFrom.refl _ _,Below.refl _ _,i1,by simp only [List.mem_append,List.mem_singleton,not_or];exact ⟨i2,λe=>dO e.symm⟩⟩
     case done=>
      rintro D xs V Q rfl ⟨i1,i2⟩ hK
      have ap:V.ranges ab 3 (plainElem ab 3) wr.heap.size w2.heap.size (dE ps).length D0 (λz=>left z&& !z.sameKey (.int .i64 x)) M:=by
       obtain ⟨es,clock,since,seen,c0,r1,r2,r3,r4,r5,r6⟩:=cl
       exact ⟨es,clock,since,seen,c0,(i1.block _ (by omega)).trans r1,r2,r3,r4,(i1.block _ (by omega)).trans r5,r6⟩
      have f2:Boxed V w.heap.size 4 (.bool false):=(i1.block _ (by omega)).trans c9
      refine ⟨⟨D::Ds,_,M,sx++[x],_,_,_,_,_,_,_,_,⟨ap,hC.step fa al,?_,bM.trans (i1.mono (by omega)),f2,bY.of_block (i1.block _ (by omega)),?_,?_,?_⟩,rfl⟩,?_⟩
      ·intro y hy
       rcases List.mem_append.1 hy with h | h
       ·exact co y h
       ·simp only [List.mem_singleton] at h
        subst h
        simpa using i2
      ·have:=i1.size;omega
      ·rw [List.nodup_cons]
       exact ⟨λh=>by have:=(R D h).2.1;omega,bi⟩
      ·intro D' a4
       rcases List.mem_cons.1 a4 with rfl | h
       ·exact ⟨by omega,hK⟩
       ·obtain ⟨r1,r2,r3⟩:=R D' h
        exact ⟨r1,(i1.block _ (by omega)).trans r3⟩
      ·rw [ap.left_eq,ce.left_eq];exact b3
     case stop=>
      rintro D c pre V Q cc ⟨⟨⟨rfl,i1⟩,i2⟩,i3,i4⟩ hK
      gi_wp2
      refine yz (λV=>Boxed V w.heap.size 4 (.bool false)/\Below w.heap.size w V) w3.heap.size ?_ ?_ (D::Ds) _ ⟨i2,i3⟩ ?_ ?_
      ·rintro V D ⟨e1,e2⟩ Q hk
       have:=I.size
       exact ⟨(ad (by omega)).trans e1,e2.trans (belowK_b (w:=w) (a1 _) V D _ _ (by omega) hk rfl rfl)⟩
      ·rintro V ⟨e1,e2⟩
       refine ⟨.bool false,?_,?_,e2⟩
       ·have hr:bs.results= #[.cell 2 4]:=by kernel_rfl
        simp [results,hr,go_sem,e1.cell]
       ·have P:zF ob ps=false:=by
         cases hm:zF ob ps with
         | false=>rfl
         | true=>
           unfold zF at hm
           simp only [a2,List.all_eq_true] at hm
           have h1:=hm.2.2 x f3
           have h2:(upto (ph ps) (dE ps).length x).contains x=true:=by simpa using cc.subset i1
           rw [h2] at h1;cases h1
        rw [P]
      ·rw [List.nodup_cons]
       exact ⟨λh=>by have:=(R D h).2.1;omega,bi⟩
      ·intro D' a4
       rcases List.mem_cons.1 a4 with rfl | h
       ·exact ⟨by omega,hK⟩
       ·obtain ⟨r1,r2,r3⟩:=R D' h
        exact ⟨r1,(i4 D' (by have:=I.size;omega) r2).trans r3⟩
end Go.AM
