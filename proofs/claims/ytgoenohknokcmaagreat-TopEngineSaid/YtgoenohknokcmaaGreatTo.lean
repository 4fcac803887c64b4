/- What one makes another one has, saved and loaded: the run of the whole engine at one input. -/
import Derived.Test.YtgoenohknokcmaaGreatCk
import Derived.KernelRfl
import Derived.Test.YtgoenohknokcmaaGreatFr
import Derived.Test.YtgoenohknokcmaaGreatRe
namespace Go.AM
theorem BE:qM=some [.bool true]:=by kernel_rfl
end Go.AM
set_option linter.unusedVariables false
set_option linter.unusedSimpArgs false
namespace Go.AM
theorem Uq {l:List Mv} {i:Nat} {x:Mv} (h:l[i]? =some x):D8 6 (az l) (some (.int .i64 (i:Int))) (some (.int .i64 ((i:Int)+1)))=some (az [x]):=by
 have hi:=(List.getElem?_eq_some_iff.1 h).1
 simp only [D8]
 rw [if_pos (by simp [Tg])]
 have hb:sK l.length (some (.int .i64 (i:Int))) (some (.int .i64 ((i:Int)+1)))=some (i,i+1):=by
  simp only [sK,R2,Option.bind_some]
  have e1:((i:Int)+1).toNat=i+1:=by omega
  simp only [e1,Int.toNat_natCast]
  rw [if_pos ⟨by omega,by omega⟩]
  simp only [Option.bind_some]
  rw [if_pos ⟨by omega,by omega⟩]
  rfl
 simp only [List.length_map,hb,Option.bind_some]
 have e2:((l.map Tg).drop i).take (i+1 - i)=[Tg x]:=by
  rw [<-List.map_drop,<-List.map_take,show i+1 - i=1 by omega,List.drop_eq_getElem_cons hi]
  have:l[i]=x:=(List.getElem?_eq_some_iff.1 h).2
  rw [this];rfl
 rw [e2];rfl
def aaM:Rep:=⟨[],0,0,[],[]⟩
theorem Xc:MayF aaM:=QN.1 rfl
structure EngF (i:Nat) (r:Rep):Prop where
 may:MayF r
 ok:OKF r
 base:r.base=[]
 fc:r.fc=0
 fr:r.fr=0
 log:r.log.length<=i
 mks:r.mks.length<=i
theorem EngF.sm {i:Nat} {r:Rep} (h:EngF i r):SmF i r:=⟨by rw [h.base];exact Nat.zero_le _,h.log,h.mks⟩
theorem EngF.mono {i j:Nat} {r:Rep} (h:EngF i r) (hij:i<=j):EngF j r:=⟨h.may,h.ok,h.base,h.fc,h.fr,Nat.le_trans h.log hij,Nat.le_trans h.mks hij⟩
theorem UM {m:Mv} (h:oneV m=true):befB 0 0 m.c m.r=true:=by
 obtain ⟨h1,_,h2,_⟩:=Cs h
 simp only [befB]
 simp;omega
theorem EngF.add {i:Nat} {r:Rep} (h:EngF i r) (hi:i<=100) {m:Mv} (hm:OKm m) (h1:oneV m=true):
  EngF (i+1) (mW r m).1/\(mW r m).1.log=cW r.log m/\(mW r m).2.1=EW r.log m/\(mW r m).2.2=0:=by
 have hs:=h.sm.add m
 obtain ⟨f1,f2,f3⟩:=Tm r m
 have hb:befB r.fc r.fr m.c m.r=true:=by rw [h.fc,h.fr];exact UM h1
 refine ⟨⟨VU h.may (h.sm.mono (by omega)) m,h.ok.add hm,by rw [f3,h.base],by rw [f1,h.fc],by rw [f2,h.fr],hs.log,hs.mks⟩,?_,?_,?_⟩
 all_goals
  unfold mW
  rw [if_pos (by rw [QN.2 h.may,h1];rfl),if_pos hb]
  cases hn:EW r.log m with
  | true=>rfl
  | false=>first
    | rfl
    | (show r.log=_
       unfold EW at hn
       unfold cW
       rw [if_pos (by simpa using hn)])
set_option maxHeartbeats 2000000 in
theorem P5 {ms:List Mv} (hom: ∀x∈ms,OKm x) (hl:ms.length<=30): ∀(k n i:Nat) (r:Rep),i+k=ms.length->k < n->EngF i r->
  ∃L:List Mv,L.length<=30/\(∀x∈L,OKm x)/\iter n (b8 (az ms)) [ar [],ar (allV [] r.log),bn (aA [] r.log),ar [],.int .i64 0,.int .i64 0,az r.log,aP r.mks,az r.log,.int .i64 (i:Int)]=some (0,[ar [],ar (allV [] L),bn (aA [] L)]):=by
 intro k
 induction k with
 | zero=>
   intro n i r hi hn hr
   obtain ⟨n,rfl⟩: ∃n',n=n'+1:=⟨n - 1,by omega⟩
   refine ⟨r.log,by have:=hr.log;omega,hr.ok.log,?_⟩
   rw [o5 n (k:=0) (o:=[ar [],ar (allV [] r.log),bn (aA [] r.log)])]
   unfold b8
   simp only [n9,aD,List.length_map,Option.bind_some,aJ,ag,aC,bV]
   have: ¬((i:Int) < (ms.length:Int)):=by omega
   simp [this]
 | succ k ih=>
   intro n i r hi hn hr
   obtain ⟨n,rfl⟩: ∃n',n=n'+1:=⟨n - 1,by omega⟩
   have hil:i < ms.length:=by omega
   have hx:ms[i]? =some ms[i]:=List.getElem?_eq_getElem hil
   generalize ms[i]=x at hx
   have hm:=hom x (List.mem_of_getElem? hx)
   have hlt:((i:Int) < (ms.length:Int)):=by omega
   have ha:aa .add (.int .i64 (i:Int)) (.int .i64 1)=some (.int .i64 ((i:Int)+1)):=HK (by omega) (by omega)
   have hone:=sZ x
   have e:((i:Int)+1)=((i+1:Nat):Int):=by omega
   cases h1:oneV x with
   | false=>
     have hst:b8 (az ms) [ar [],ar (allV [] r.log),bn (aA [] r.log),ar [],.int .i64 0,.int .i64 0,az r.log,aP r.mks,az r.log,.int .i64 (i:Int)]=some (.next [ar [],ar (allV [] r.log),bn (aA [] r.log),ar [],.int .i64 0,.int .i64 0,az r.log,aP r.mks,az r.log,.int .i64 ((i+1:Nat):Int)]):=by
      unfold b8
      rw [h1] at hone
      simp only [n8,n9,aD,List.length_map,Option.bind_some,aJ,hlt,decide_true,aj,nw hx,hone,ag,aC,bV,bw,eJ,eF,BF,sd,jn,Bool.not_false,ha,e]
     obtain ⟨L,l1,l2,l3⟩:=ih n (i+1) r (by omega) (by omega) (hr.mono (by omega))
     refine ⟨L,l1,l2,?_⟩
     rw [<-l3]
     rw [iter,hst];rfl
   | true=>
     obtain ⟨hr',g1,g2,g3⟩:=hr.add (by omega) hm h1
     have hlg:=hr.log
     have hadd:=replay_Add_eq (b:=[]) (L:=r.log) (m:=x) (fun y hy=>by cases hy) hr.ok.log hm (by simp;omega)
     have hfl:=M8 (r:=r) (hr.sm.mono (by omega)) hr.ok hm
     rw [hr.base,hr.fc,hr.fr] at hfl
     rw [hr'.base,hr'.fc,hr'.fr,g1,g2,g3] at hfl
     have hun:gV (az r.log) (az [x])=some [az (cW r.log x)]:=Hz (a:=r.log) (b:=[x]) (by omega) (by simp)
     have hil':=lj r.log x
     have hal:=nN (cW r.log x) []
     have hokL: ∀y∈cW r.log x,OKm y:=RO hr.ok.log hm
     have hokA:OKl (allV [] (cW r.log x)):=OKl.allV (fun y hy=>by cases hy) hokL
     have hsl:(aA [] (cW r.log x)).length=(cW r.log x).length:=dP _ _
     have hrows:bk (.ptr [ar [],ar (allV [] (cW r.log x)),bn (aA [] (cW r.log x))] 0)=some [ar (allV [] (cW r.log x))]:=replay_Rows_eq (b:=[]) (by simp at hal;omega)
     have hlog:bT (.ptr [ar [],ar (allV [] (cW r.log x)),bn (aA [] (cW r.log x))] 0)=some [az (cW r.log x)]:=by
      have:=replay_Log_eq (b:=[]) (l:=allV [] (cW r.log x)) (ss:=aA [] (cW r.log x)) (by omega)
      rw [Dc] at this;exact this
     have htree:=JM (r:=(mW r x).1) (hr'.sm.mono (by omega)) hr'.ok (.int .i64 0) (.int .i64 0) (aP (mW r x).1.mks)
     rw [hr'.base,g1] at htree
     have hfold:kO (.lst []) (az (cW r.log x))=some [ar (allV [] (cW r.log x))]:=DX (l:=[]) (ms:=cW r.log x) (by simp;omega) (fun y hy=>by cases hy) hokL
     have hsame:=JC (a:=allV [] (cW r.log x)) (b:=allV [] (cW r.log x)) (by simp at hal;omega) hokA.fl hokA.fl
     rw [S1] at hsame
     have hsamV:=Ky (a:=cW r.log x) (b:=cW r.log x) (by omega) (fun m hm=>(hokL m hm).rk) (fun m hm=>(hokL m hm).rk)
     rw [Tc] at hsamV
     have hsl1:=Uq hx
     rw [e] at hsl1
     have hdr: ∀a b' c d e:IV,([a,b',c,d,e]:List IV).drop 3=[d,e]:=fun _ _ _ _ _=>rfl
     have hst:b8 (az ms) [ar [],ar (allV [] r.log),bn (aA [] r.log),ar [],.int .i64 0,.int .i64 0,az r.log,aP r.mks,az r.log,.int .i64 (i:Int)]=some (.next [ar [],ar (allV [] (cW r.log x)),bn (aA [] (cW r.log x)),ar [],.int .i64 0,.int .i64 0,az (cW r.log x),aP (mW r x).1.mks,az (cW r.log x),.int .i64 ((i+1:Nat):Int)]):=by
      unfold b8
      rw [h1] at hone
      simp only [n8,n9,aD,List.length_map,Option.bind_some,aJ,hlt,decide_true,aj,aF,nw hx,hone,ag,aC,bV,bw,eJ,eF,BF,sd,jn,Bool.not_true,hadd,hfl,hdr,vB,ne_eq,not_true_eq_false,decide_false,UC,beq_self_eq_true,bne_self_eq_false,ha,hsl1,hun,hrows,hlog,htree,hfold,hsame,hsamV,e]
     obtain ⟨L,l1,l2,l3⟩:=ih n (i+1) (mW r x).1 (by omega) (by omega) hr'
     rw [g1] at l3
     refine ⟨L,l1,l2,?_⟩
     rw [<-l3]
     rw [iter,hst];rfl
theorem zf (ms:List Mv) (hom: ∀x∈ms,OKm x):ku (az ms)=some [.bool true]:=by
 have hf1:lq (az ms) (.int .i64 30)=some [.bool (U9 ms 30)]:=Oo (n:=30) (by decide)
 unfold ku
 simp only [hf1,Option.bind_some,ag,jn]
 cases h:U9 ms 30 with
 | false=>simp only [Bool.not_false,aj,BE,Option.bind_some,ag,dV,fU,Option.map_some]
 | true=>
   have hl:=Wr h
   have hnew:jx (.lst [])=some [ar [],ar [],bn []]:=replay_New_eq (b:=[]) (by decide)
   obtain ⟨L,l1,l2,l3⟩:=P5 hom hl ms.length rounds 0 aaM (by omega) (by have:=bc;omega) ⟨Xc,⟨fun y hy=>absurd hy List.not_mem_nil,fun y hy=>absurd hy List.not_mem_nil⟩,rfl,rfl,rfl,Nat.le_refl _,Nat.le_refl _⟩
   have l3':iter rounds (b8 (az ms)) [ar [],ar [],bn [],.lst [],.int .i64 0,.int .i64 0,.lst [],.lst [],.lst [],.int .i64 0]=some (0,[ar [],ar (allV [] L),bn (aA [] L)]):=l3
   have hal:=nN L []
   have hsl:(aA [] L).length=L.length:=dP _ _
   simp at hal
   have r1:bk (.ptr [ar [],ar (allV [] L),bn (aA [] L)] 0)=some [ar (allV [] L)]:=replay_Rows_eq (b:=[]) (by omega)
   have t1:cx (.ptr [ar [],ar (allV [] L),bn (aA [] L)] 0)=some [bn (aA [] L)]:=replay_Steps_eq (b:=[]) (by omega)
   have hb:=M5 (l:=allV [] L) (ss:=aA [] L) (by omega)
   rw [RF] at hb
   simp only [Bool.not_true,aF,hnew,Option.bind_some,ag,aC,bV,l3',jO,r1,t1,hb,aD,List.map_nil,List.length_nil,Int.natCast_zero,nW,decide_true,aj,BE,dV,fU,Option.map_some]
end Go.AM
