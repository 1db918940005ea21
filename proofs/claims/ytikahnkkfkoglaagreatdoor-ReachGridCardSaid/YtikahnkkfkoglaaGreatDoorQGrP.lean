/- Plain: the texts of a grid, their models, and the states that they have. Nothing of the program. -/
import Derived.Test.YtikahnkkfkoglaaGreatDoorQ6
import Derived.Test.YtikahnkkfkoglaaGreatDoorQ7
import Derived.Test.YtikahnkkfkoglaaGreatDoorQ16
import Derived.Test.YtikahnkkfkoglaaGreatDoorQ2
set_option linter.unusedSimpArgs false
set_option linter.unusedVariables false
namespace Go.Proofs.YtikahnkkfkoglaaGreatDoor
open Go Go.Sx Go.St Pa
set_option maxRecDepth 100000
def qvt:List UInt8:=[112,114,111,99,32,112,32,123,32,115,107,105,112,59,32,125]
def qiu:List Nd:=[⟨0,[],[],[1],0⟩,⟨3,[[112]],[1],[2],0⟩,⟨14,[],[],[],9⟩]
def model16:Md:={ tree:=qiu,globals:=0,chans:=[],vars:=[],procs:=[⟨[112],0,[],2,[false,true],[⟨0,1,0,(-1),(-1),(-1),false,2⟩],[],[]⟩],safe:=[],dead:=false }
theorem px16:qdp qvt=(qiu,(0,0)):=by kernel_rfl
theorem jdq:qcp qiu=true:=by decide +kernel
theorem jdr:(qbo qiu).1=0:=by decide +kernel
theorem jds:qci qiu=model16:=by kernel_rfl
theorem jrq:fitsB model16 (ju model16)=true:=by decide +kernel
theorem ex16:(fun r:List Fnd × (Bool × Bool)=>(r.1.length,r.2)) (jd model16 10)=(2,(true,false)):=by kernel_rfl
def qvu:List UInt8:=[112,114,111,99,32,112,32,42,32,49,32,123,32,115,107,105,112,59,32,125,32,100,101,97,100,108,111,99,107,59]
def qiv:List Nd:=[⟨0,[],[],[1,3],0⟩,⟨3,[[112]],[1],[2],0⟩,⟨14,[],[],[],13⟩,⟨5,[],[],[],21⟩]
def modelG11:Md:={ tree:=qiv,globals:=0,chans:=[],vars:=[],procs:=[⟨[112],0,[],2,[false,true],[⟨0,1,0,(-1),(-1),(-1),false,2⟩],[],[]⟩],safe:=[],dead:=true }
theorem pxG11:qdp qvu=(qiv,(0,0)):=by kernel_rfl
theorem jdt:qcp qiv=true:=by decide +kernel
theorem jdu:(qbo qiv).1=0:=by decide +kernel
theorem jdv:qci qiv=modelG11:=by kernel_rfl
theorem qvv:fitsB modelG11 (ju modelG11)=true:=by decide +kernel
theorem jdw:(fun r:List Fnd × (Bool × Bool)=>(r.1.length,r.2)) (jd modelG11 200)=(2,(true,false)):=by kernel_rfl
theorem nrG11:qay modelG11 1 200=(2,true):=by kernel_rfl
theorem nqG11:qay modelG11 1 200=(2,true):=by kernel_rfl
def qvw:List UInt8:=[112,114,111,99,32,112,32,42,32,49,32,123,32,115,107,105,112,59,32,115,107,105,112,59,32,125,32,100,101,97,100,108,111,99,107,59]
def qiw:List Nd:=[⟨0,[],[],[1,4],0⟩,⟨3,[[112]],[1],[2,3],0⟩,⟨14,[],[],[],13⟩,⟨14,[],[],[],19⟩,⟨5,[],[],[],27⟩]
def modelG12:Md:={ tree:=qiw,globals:=0,chans:=[],vars:=[],procs:=[⟨[112],0,[],3,[false,true,false],[⟨0,2,0,(-1),(-1),(-1),false,2⟩,⟨2,1,0,(-1),(-1),(-1),false,3⟩],[],[]⟩],safe:=[],dead:=true }
theorem pxG12:qdp qvw=(qiw,(0,0)):=by kernel_rfl
theorem jdx:qcp qiw=true:=by decide +kernel
theorem jdy:(qbo qiw).1=0:=by decide +kernel
theorem jdz:qci qiw=modelG12:=by kernel_rfl
theorem qvx:fitsB modelG12 (ju modelG12)=true:=by decide +kernel
theorem jea:(fun r:List Fnd × (Bool × Bool)=>(r.1.length,r.2)) (jd modelG12 200)=(3,(true,false)):=by kernel_rfl
theorem nrG12:qay modelG12 2 200=(3,true):=by kernel_rfl
theorem nqG12:qay modelG12 1 200=(2,true):=by kernel_rfl
def qvy:List UInt8:=[112,114,111,99,32,112,32,42,32,49,32,123,32,115,107,105,112,59,32,115,107,105,112,59,32,115,107,105,112,59,32,125,32,100,101,97,100,108,111,99,107,59]
def qix:List Nd:=[⟨0,[],[],[1,5],0⟩,⟨3,[[112]],[1],[2,3,4],0⟩,⟨14,[],[],[],13⟩,⟨14,[],[],[],19⟩,⟨14,[],[],[],25⟩,⟨5,[],[],[],33⟩]
def modelG13:Md:={ tree:=qix,globals:=0,chans:=[],vars:=[],procs:=[⟨[112],0,[],4,[false,true,false,false],[⟨0,2,0,(-1),(-1),(-1),false,2⟩,⟨2,3,0,(-1),(-1),(-1),false,3⟩,⟨3,1,0,(-1),(-1),(-1),false,4⟩],[],[]⟩],safe:=[],dead:=true }
theorem pxG13:qdp qvy=(qix,(0,0)):=by kernel_rfl
theorem jeb:qcp qix=true:=by decide +kernel
theorem jec:(qbo qix).1=0:=by decide +kernel
theorem jed:qci qix=modelG13:=by kernel_rfl
theorem qvz:fitsB modelG13 (ju modelG13)=true:=by decide +kernel
theorem jee:(fun r:List Fnd × (Bool × Bool)=>(r.1.length,r.2)) (jd modelG13 200)=(4,(true,false)):=by kernel_rfl
theorem nrG13:qay modelG13 3 200=(4,true):=by kernel_rfl
theorem nqG13:qay modelG13 1 200=(2,true):=by kernel_rfl
def qwa:List UInt8:=[112,114,111,99,32,112,32,42,32,49,32,123,32,115,107,105,112,59,32,115,107,105,112,59,32,115,107,105,112,59,32,115,107,105,112,59,32,125,32,100,101,97,100,108,111,99,107,59]
def qiy:List Nd:=[⟨0,[],[],[1,6],0⟩,⟨3,[[112]],[1],[2,3,4,5],0⟩,⟨14,[],[],[],13⟩,⟨14,[],[],[],19⟩,⟨14,[],[],[],25⟩,⟨14,[],[],[],31⟩,⟨5,[],[],[],39⟩]
def modelG14:Md:={ tree:=qiy,globals:=0,chans:=[],vars:=[],procs:=[⟨[112],0,[],5,[false,true,false,false,false],[⟨0,2,0,(-1),(-1),(-1),false,2⟩,⟨2,3,0,(-1),(-1),(-1),false,3⟩,⟨3,4,0,(-1),(-1),(-1),false,4⟩,⟨4,1,0,(-1),(-1),(-1),false,5⟩],[],[]⟩],safe:=[],dead:=true }
theorem pxG14:qdp qwa=(qiy,(0,0)):=by kernel_rfl
theorem jef:qcp qiy=true:=by decide +kernel
theorem jeg:(qbo qiy).1=0:=by decide +kernel
theorem jeh:qci qiy=modelG14:=by kernel_rfl
theorem qwb:fitsB modelG14 (ju modelG14)=true:=by decide +kernel
theorem jei:(fun r:List Fnd × (Bool × Bool)=>(r.1.length,r.2)) (jd modelG14 200)=(5,(true,false)):=by kernel_rfl
theorem nrG14:qay modelG14 4 200=(5,true):=by kernel_rfl
theorem nqG14:qay modelG14 1 200=(2,true):=by kernel_rfl
def qwc:List UInt8:=[112,114,111,99,32,112,32,42,32,50,32,123,32,115,107,105,112,59,32,125,32,100,101,97,100,108,111,99,107,59]
def qiz:List Nd:=[⟨0,[],[],[1,3],0⟩,⟨3,[[112]],[2],[2],0⟩,⟨14,[],[],[],13⟩,⟨5,[],[],[],21⟩]
def modelG21:Md:={ tree:=qiz,globals:=0,chans:=[],vars:=[],procs:=[⟨[112],0,[],2,[false,true],[⟨0,1,0,(-1),(-1),(-1),false,2⟩],[],[]⟩,⟨[112],1,[],2,[false,true],[⟨0,1,0,(-1),(-1),(-1),false,2⟩],[],[]⟩],safe:=[],dead:=true }
theorem pxG21:qdp qwc=(qiz,(0,0)):=by kernel_rfl
theorem jej:qcp qiz=true:=by decide +kernel
theorem jek:(qbo qiz).1=0:=by decide +kernel
theorem jel:qci qiz=modelG21:=by kernel_rfl
theorem qwd:fitsB modelG21 (ju modelG21)=true:=by decide +kernel
theorem jem:(fun r:List Fnd × (Bool × Bool)=>(r.1.length,r.2)) (jd modelG21 200)=(4,(true,false)):=by kernel_rfl
theorem nrG21:qay modelG21 2 200=(4,true):=by kernel_rfl
theorem nqG21:qay modelG21 1 200=(3,true):=by kernel_rfl
def qwe:List UInt8:=[112,114,111,99,32,112,32,42,32,50,32,123,32,115,107,105,112,59,32,115,107,105,112,59,32,125,32,100,101,97,100,108,111,99,107,59]
def qja:List Nd:=[⟨0,[],[],[1,4],0⟩,⟨3,[[112]],[2],[2,3],0⟩,⟨14,[],[],[],13⟩,⟨14,[],[],[],19⟩,⟨5,[],[],[],27⟩]
def modelG22:Md:={ tree:=qja,globals:=0,chans:=[],vars:=[],procs:=[⟨[112],0,[],3,[false,true,false],[⟨0,2,0,(-1),(-1),(-1),false,2⟩,⟨2,1,0,(-1),(-1),(-1),false,3⟩],[],[]⟩,⟨[112],1,[],3,[false,true,false],[⟨0,2,0,(-1),(-1),(-1),false,2⟩,⟨2,1,0,(-1),(-1),(-1),false,3⟩],[],[]⟩],safe:=[],dead:=true }
theorem pxG22:qdp qwe=(qja,(0,0)):=by kernel_rfl
theorem jen:qcp qja=true:=by decide +kernel
theorem jeo:(qbo qja).1=0:=by decide +kernel
theorem jep:qci qja=modelG22:=by kernel_rfl
theorem qwf:fitsB modelG22 (ju modelG22)=true:=by decide +kernel
theorem jeq:(fun r:List Fnd × (Bool × Bool)=>(r.1.length,r.2)) (jd modelG22 200)=(9,(true,false)):=by kernel_rfl
theorem nrG22:qay modelG22 4 200=(9,true):=by kernel_rfl
theorem nqG22:qay modelG22 1 200=(3,true):=by kernel_rfl
def qwg:List UInt8:=[112,114,111,99,32,112,32,42,32,50,32,123,32,115,107,105,112,59,32,115,107,105,112,59,32,115,107,105,112,59,32,125,32,100,101,97,100,108,111,99,107,59]
def qjb:List Nd:=[⟨0,[],[],[1,5],0⟩,⟨3,[[112]],[2],[2,3,4],0⟩,⟨14,[],[],[],13⟩,⟨14,[],[],[],19⟩,⟨14,[],[],[],25⟩,⟨5,[],[],[],33⟩]
def modelG23:Md:={ tree:=qjb,globals:=0,chans:=[],vars:=[],procs:=[⟨[112],0,[],4,[false,true,false,false],[⟨0,2,0,(-1),(-1),(-1),false,2⟩,⟨2,3,0,(-1),(-1),(-1),false,3⟩,⟨3,1,0,(-1),(-1),(-1),false,4⟩],[],[]⟩,⟨[112],1,[],4,[false,true,false,false],[⟨0,2,0,(-1),(-1),(-1),false,2⟩,⟨2,3,0,(-1),(-1),(-1),false,3⟩,⟨3,1,0,(-1),(-1),(-1),false,4⟩],[],[]⟩],safe:=[],dead:=true }
theorem pxG23:qdp qwg=(qjb,(0,0)):=by kernel_rfl
theorem jer:qcp qjb=true:=by decide +kernel
theorem jes:(qbo qjb).1=0:=by decide +kernel
theorem jet:qci qjb=modelG23:=by kernel_rfl
theorem qwh:fitsB modelG23 (ju modelG23)=true:=by decide +kernel
theorem jeu:(fun r:List Fnd × (Bool × Bool)=>(r.1.length,r.2)) (jd modelG23 200)=(16,(true,false)):=by kernel_rfl
theorem nrG23:qay modelG23 6 200=(16,true):=by kernel_rfl
theorem nqG23:qay modelG23 1 200=(3,true):=by kernel_rfl
def qwi:List UInt8:=[112,114,111,99,32,112,32,42,32,50,32,123,32,115,107,105,112,59,32,115,107,105,112,59,32,115,107,105,112,59,32,115,107,105,112,59,32,125,32,100,101,97,100,108,111,99,107,59]
def qjc:List Nd:=[⟨0,[],[],[1,6],0⟩,⟨3,[[112]],[2],[2,3,4,5],0⟩,⟨14,[],[],[],13⟩,⟨14,[],[],[],19⟩,⟨14,[],[],[],25⟩,⟨14,[],[],[],31⟩,⟨5,[],[],[],39⟩]
def modelG24:Md:={ tree:=qjc,globals:=0,chans:=[],vars:=[],procs:=[⟨[112],0,[],5,[false,true,false,false,false],[⟨0,2,0,(-1),(-1),(-1),false,2⟩,⟨2,3,0,(-1),(-1),(-1),false,3⟩,⟨3,4,0,(-1),(-1),(-1),false,4⟩,⟨4,1,0,(-1),(-1),(-1),false,5⟩],[],[]⟩,⟨[112],1,[],5,[false,true,false,false,false],[⟨0,2,0,(-1),(-1),(-1),false,2⟩,⟨2,3,0,(-1),(-1),(-1),false,3⟩,⟨3,4,0,(-1),(-1),(-1),false,4⟩,⟨4,1,0,(-1),(-1),(-1),false,5⟩],[],[]⟩],safe:=[],dead:=true }
theorem pxG24:qdp qwi=(qjc,(0,0)):=by kernel_rfl
theorem jev:qcp qjc=true:=by decide +kernel
theorem jew:(qbo qjc).1=0:=by decide +kernel
theorem jex:qci qjc=modelG24:=by kernel_rfl
theorem qwj:fitsB modelG24 (ju modelG24)=true:=by decide +kernel
theorem jey:(fun r:List Fnd × (Bool × Bool)=>(r.1.length,r.2)) (jd modelG24 200)=(25,(true,false)):=by kernel_rfl
theorem nrG24:qay modelG24 8 200=(25,true):=by kernel_rfl
theorem nqG24:qay modelG24 1 200=(3,true):=by kernel_rfl
def qwk:List UInt8:=[112,114,111,99,32,112,32,42,32,51,32,123,32,115,107,105,112,59,32,125,32,100,101,97,100,108,111,99,107,59]
def qjd:List Nd:=[⟨0,[],[],[1,3],0⟩,⟨3,[[112]],[3],[2],0⟩,⟨14,[],[],[],13⟩,⟨5,[],[],[],21⟩]
def modelG31:Md:={ tree:=qjd,globals:=0,chans:=[],vars:=[],procs:=[⟨[112],0,[],2,[false,true],[⟨0,1,0,(-1),(-1),(-1),false,2⟩],[],[]⟩,⟨[112],1,[],2,[false,true],[⟨0,1,0,(-1),(-1),(-1),false,2⟩],[],[]⟩,⟨[112],2,[],2,[false,true],[⟨0,1,0,(-1),(-1),(-1),false,2⟩],[],[]⟩],safe:=[],dead:=true }
theorem pxG31:qdp qwk=(qjd,(0,0)):=by kernel_rfl
theorem jez:qcp qjd=true:=by decide +kernel
theorem jfa:(qbo qjd).1=0:=by decide +kernel
theorem jfb:qci qjd=modelG31:=by kernel_rfl
theorem qwl:fitsB modelG31 (ju modelG31)=true:=by decide +kernel
theorem jfc:(fun r:List Fnd × (Bool × Bool)=>(r.1.length,r.2)) (jd modelG31 200)=(8,(true,false)):=by kernel_rfl
theorem nrG31:qay modelG31 3 200=(8,true):=by kernel_rfl
theorem nqG31:qay modelG31 1 200=(4,true):=by kernel_rfl
def qwm:List UInt8:=[112,114,111,99,32,112,32,42,32,51,32,123,32,115,107,105,112,59,32,115,107,105,112,59,32,125,32,100,101,97,100,108,111,99,107,59]
def qje:List Nd:=[⟨0,[],[],[1,4],0⟩,⟨3,[[112]],[3],[2,3],0⟩,⟨14,[],[],[],13⟩,⟨14,[],[],[],19⟩,⟨5,[],[],[],27⟩]
def modelG32:Md:={ tree:=qje,globals:=0,chans:=[],vars:=[],procs:=[⟨[112],0,[],3,[false,true,false],[⟨0,2,0,(-1),(-1),(-1),false,2⟩,⟨2,1,0,(-1),(-1),(-1),false,3⟩],[],[]⟩,⟨[112],1,[],3,[false,true,false],[⟨0,2,0,(-1),(-1),(-1),false,2⟩,⟨2,1,0,(-1),(-1),(-1),false,3⟩],[],[]⟩,⟨[112],2,[],3,[false,true,false],[⟨0,2,0,(-1),(-1),(-1),false,2⟩,⟨2,1,0,(-1),(-1),(-1),false,3⟩],[],[]⟩],safe:=[],dead:=true }
theorem pxG32:qdp qwm=(qje,(0,0)):=by kernel_rfl
theorem jfd:qcp qje=true:=by decide +kernel
theorem jfe:(qbo qje).1=0:=by decide +kernel
theorem jff:qci qje=modelG32:=by kernel_rfl
theorem qwn:fitsB modelG32 (ju modelG32)=true:=by decide +kernel
theorem jfg:(fun r:List Fnd × (Bool × Bool)=>(r.1.length,r.2)) (jd modelG32 200)=(27,(true,false)):=by kernel_rfl
theorem nrG32:qay modelG32 6 200=(27,true):=by kernel_rfl
theorem nqG32:qay modelG32 1 200=(4,true):=by kernel_rfl
def qwo:List UInt8:=[112,114,111,99,32,112,32,42,32,51,32,123,32,115,107,105,112,59,32,115,107,105,112,59,32,115,107,105,112,59,32,125,32,100,101,97,100,108,111,99,107,59]
def qjf:List Nd:=[⟨0,[],[],[1,5],0⟩,⟨3,[[112]],[3],[2,3,4],0⟩,⟨14,[],[],[],13⟩,⟨14,[],[],[],19⟩,⟨14,[],[],[],25⟩,⟨5,[],[],[],33⟩]
def modelG33:Md:={ tree:=qjf,globals:=0,chans:=[],vars:=[],procs:=[⟨[112],0,[],4,[false,true,false,false],[⟨0,2,0,(-1),(-1),(-1),false,2⟩,⟨2,3,0,(-1),(-1),(-1),false,3⟩,⟨3,1,0,(-1),(-1),(-1),false,4⟩],[],[]⟩,⟨[112],1,[],4,[false,true,false,false],[⟨0,2,0,(-1),(-1),(-1),false,2⟩,⟨2,3,0,(-1),(-1),(-1),false,3⟩,⟨3,1,0,(-1),(-1),(-1),false,4⟩],[],[]⟩,⟨[112],2,[],4,[false,true,false,false],[⟨0,2,0,(-1),(-1),(-1),false,2⟩,⟨2,3,0,(-1),(-1),(-1),false,3⟩,⟨3,1,0,(-1),(-1),(-1),false,4⟩],[],[]⟩],safe:=[],dead:=true }
theorem pxG33:qdp qwo=(qjf,(0,0)):=by kernel_rfl
theorem jfh:qcp qjf=true:=by decide +kernel
theorem jfi:(qbo qjf).1=0:=by decide +kernel
theorem jfj:qci qjf=modelG33:=by kernel_rfl
theorem qwp:fitsB modelG33 (ju modelG33)=true:=by decide +kernel
theorem jfk:(fun r:List Fnd × (Bool × Bool)=>(r.1.length,r.2)) (jd modelG33 200)=(64,(true,false)):=by kernel_rfl
theorem nrG33:qay modelG33 9 200=(64,true):=by kernel_rfl
theorem nqG33:qay modelG33 1 200=(4,true):=by kernel_rfl
def qwq:List UInt8:=[112,114,111,99,32,112,32,42,32,51,32,123,32,115,107,105,112,59,32,115,107,105,112,59,32,115,107,105,112,59,32,115,107,105,112,59,32,125,32,100,101,97,100,108,111,99,107,59]
def qjg:List Nd:=[⟨0,[],[],[1,6],0⟩,⟨3,[[112]],[3],[2,3,4,5],0⟩,⟨14,[],[],[],13⟩,⟨14,[],[],[],19⟩,⟨14,[],[],[],25⟩,⟨14,[],[],[],31⟩,⟨5,[],[],[],39⟩]
def modelG34:Md:={ tree:=qjg,globals:=0,chans:=[],vars:=[],procs:=[⟨[112],0,[],5,[false,true,false,false,false],[⟨0,2,0,(-1),(-1),(-1),false,2⟩,⟨2,3,0,(-1),(-1),(-1),false,3⟩,⟨3,4,0,(-1),(-1),(-1),false,4⟩,⟨4,1,0,(-1),(-1),(-1),false,5⟩],[],[]⟩,⟨[112],1,[],5,[false,true,false,false,false],[⟨0,2,0,(-1),(-1),(-1),false,2⟩,⟨2,3,0,(-1),(-1),(-1),false,3⟩,⟨3,4,0,(-1),(-1),(-1),false,4⟩,⟨4,1,0,(-1),(-1),(-1),false,5⟩],[],[]⟩,⟨[112],2,[],5,[false,true,false,false,false],[⟨0,2,0,(-1),(-1),(-1),false,2⟩,⟨2,3,0,(-1),(-1),(-1),false,3⟩,⟨3,4,0,(-1),(-1),(-1),false,4⟩,⟨4,1,0,(-1),(-1),(-1),false,5⟩],[],[]⟩],safe:=[],dead:=true }
theorem pxG34:qdp qwq=(qjg,(0,0)):=by kernel_rfl
theorem jfl:qcp qjg=true:=by decide +kernel
theorem jfm:(qbo qjg).1=0:=by decide +kernel
theorem jfn:qci qjg=modelG34:=by kernel_rfl
theorem qwr:fitsB modelG34 (ju modelG34)=true:=by decide +kernel
theorem jfo:(fun r:List Fnd × (Bool × Bool)=>(r.1.length,r.2)) (jd modelG34 200)=(125,(true,false)):=by kernel_rfl
theorem nrG34:qay modelG34 12 200=(125,true):=by kernel_rfl
theorem nqG34:qay modelG34 1 200=(4,true):=by kernel_rfl
end Go.Proofs.YtikahnkkfkoglaaGreatDoor
