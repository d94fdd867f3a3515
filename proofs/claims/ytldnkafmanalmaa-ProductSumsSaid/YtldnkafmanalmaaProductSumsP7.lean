/- A part of the proof (GmAQT, GmAQP, GmAQQ, GmAQN, GmAQM, GmAQA). -/
import Derived.Test.YtldnkafmanalmaaProg
import Derived.KernelRfl
import Derived.Test.YtldnkafmanalmaaProductSumsP6
set_option linter.unusedVariables false
set_option linter.unusedSimpArgs false
set_option linter.unusedSectionVars false
namespace Go.Gm.AQ
open Go Go.Gm
def methL:List (TypeId × String × FuncId):=[(218,"Len",123),(218,"Less",156),(218,"Pop",157),(218,"Push",158),(218,"Swap",159),(218,"milestone/queue.place",160)]
def meths:TypeId→String→Option FuncId:=fun t nm=>(methL.find? fun p=>p.1 == t && p.2.1 == nm).map (·.2.2)
def rN (a n:Nat):List Nat:=List.range' a n
noncomputable def a1Z:Hint:=mkHint 126 [[10],[20],[19],[0,1,2,3,4,20],[23],[21,22],[0,1,2,3,4,23],[0,1,2,24,25,26,27,28,29,30,31],[3,32,33],[14,38],[],[39,40],[38],(rN 34 4),(rN 53 12),(rN 41 12),[4,65,66,67,68],[12,13,15,69,70,71,72,73,74,75,76],[88],(rN 77 11),[11,16,17,88],[11,16,17,18,92],[],[93,94],[92],[89,90,91],[125],(rN 95 30),[11,16,17,18,125],[]] [(10,[[],[0],[],[],[3],[],[3,4,5],(rN 3 4),(rN 3 5),(rN 3 6),(rN 0 10),(rN 0 11),(rN 0 12)],(rN 0 13)),(11,[[],[0],[],[],[3],[],[3,4,5],(rN 3 4),(rN 3 5),(rN 3 6),(rN 0 10),(rN 0 11),(rN 0 12)],(rN 0 13)),(13,[[],[],[],[0,1,2],[],[],[],(rN 0 7),(rN 0 8),(rN 0 9)],[0,1,2,4,5,6,3,7,8,9]),(19,[[],[],[0,1],[0,1,2],(rN 0 4),(rN 0 5),(rN 0 6),(rN 0 6),(rN 0 8),(rN 0 9),(rN 0 10),(rN 0 11),(rN 0 12),(rN 0 13),(rN 0 13),(rN 0 15),(rN 0 16),(rN 0 17),(rN 0 18),(rN 0 19),(rN 0 19),(rN 0 21),(rN 0 22),(rN 0 19),(rN 0 19),[0,1,2,3,4,5,6,7,8,9,10,11,12,13,14,15,16,17,18,23,24],[0,1,2,3,4,5,6,7,8,9,10,11,12,13,14,15,16,17,18,23,24,25],[0,1,2,3,4,5,6,7,8,9,10,11,12,13,14,15,16,17,18,23,24,25,26],(rN 0 28),(rN 0 29),(rN 0 30)],(rN 0 31))] [9]
noncomputable def a5j:Hint:=mkHint 67 [[0],[8,9,10],(rN 11 4),(rN 15 6),(rN 21 6),[1,2,27,28,29],[3,4,5,6,7,30,31,32,33,34,35,36,37,38,39,40,41,42,43,44,45,46,47,48,49,50,51,52,53,54,55,56,57,58,59,60,61,62,63,64,65,66]] [] []
noncomputable def a6T:Hint:=mkHint 6 [[2],[0,3,4,5]] [] []
noncomputable def a5Z:Hint:=mkHint 80 [[],[0,11,12,13,14],[1,2,8,22],[],[23,24],[22],(rN 15 7),[10,73,74,75,76,77,78],(rN 25 4),(rN 29 16),[47,48,49,50,51,52,53,54,57,58,59,60,61,62,63,64],[45,46],[47,55,56],[9,67,68,69,70,71,72],[65,66],[7,79]] [(6,[[],[],[1],[0,1,2],[],[4],[],[6],(rN 0 8),[],[9],(rN 0 11),[],[12],(rN 0 14),(rN 0 15),[],(rN 0 17)],[0,1,2,4,5,6,7,9,10,12,13,16,3,8,11,14,15,17])] [10,13]
noncomputable def a3P:Hint:=mkHint 19 [[],[0,5,6,7,8,9,10,11],[13],[4,12],[3,13,14,15,16,17],[3,18]] [] []
noncomputable def a4p:Hint:=mkHint 15 [[4],[0,6,7,8],[1,10,11,12,13],[9],[5,14]] [] []
noncomputable def b0y:Hint:=mkHint 48 [[0,1,6],[2,4,11,12,13,14,15,16,17],[18,19],[3,20,21,22],[7,24,25,26],[23],[46],[],[26],[9,10,35,36,37,38,39,40,41,42,43,44,45],[27],[28,29,30],[31,32,33],[34],[8,47]] [] []
noncomputable def a6U:Hint:=mkHint 11 [[],[5],[3,4],[0,5,6],[0,7,8,9,10]] [] []
noncomputable def a3Q:Hint:=mkHint 41 [[3],[0,5,11,12,13,14,15,16],[6,18],[17],[4,6,18,19,20],[4,21,22,23,24,25],[8,27],[26],[7,8,27,28,29],[7,30,31,32,33,34],[10,36],[35],[9,10,36,37,38],[9,39,40]] [] []
noncomputable def a6a:Hint:=mkHint 71 [[0,2],[14],[5],[8],[1,6,7,9,10,11],[7,13],[1,6,12],[6,12,15],[1,14],[],[4,20],[],[21,22],[20],(rN 16 4),(rN 32 10),[29,30,31],(rN 23 6),[1,43,44,46,47,48,50,51,52,54,55,56,58,59,60,61,62,63,64,65,66,67,68,69],[42],[45],[44,49],[48,53],[43,52,57],[3,70]] [(14,[[],[],[1],[],[3],[],[3,4,5],(rN 3 4),(rN 1 7),(rN 0 9),(rN 0 10)],(rN 0 11))] [10,16]
noncomputable def b0z:Hint:=mkHint 38 [[0,1,9],[2,4,5,12,13,14,15,16,17,18],[19,20],[3,21,22,23],[25],[24],[10,11,25,26],[10,11,27,28,29,30,31,32,33,34,35,36,37]] [(6,[[],[0],[0,1],[0,1,2],[],(rN 0 5),(rN 0 6),[],[],[7,8],(rN 0 10),(rN 0 11),(rN 0 12)],(rN 0 13))] []
noncomputable def a6b:Hint:=mkHint 31 [[4],[8],[7],[0,1,8],[],[0,1,6,16],[],[17,18],[16],(rN 9 7),(rN 19 11),[5,30]] [] []
noncomputable def a4q:Hint:=mkHint 15 [[4],[0,6,7,8],[1,10,11,12,13],[9],[5,14]] [] []
noncomputable def b1I:Hint:=mkHint 56 [[0,1,4],[2,10,11,12,13,14,15,16,17,18,19],(rN 21 4),[3,20],[54],[],[24],[6,28,29,30],[25,26,27],[7],[53],[],[30],[8,9,33,34,35,36,37,38,39,40,41,42,43,44,45,46,47,48,49,50,51,52],[31,32],[5,55]] [(1,[[],[],[1],[],[],[4],[4,5],[4,5,6],(rN 0 8),(rN 0 9),(rN 0 10)],[0,1,3,4,5,6,7,2,8,9,10]),(8,[[],[0],[0,1],[0,1,2],[],[],[],[6],[6,7],[6,7,8],[],[],(rN 6 5),(rN 6 7),(rN 6 8),[],[15],(rN 6 11),(rN 0 5),(rN 0 19),(rN 0 20)],[0,1,2,3,4,5,6,7,8,9,10,11,12,13,14,15,16,18,17,19,20])] []
noncomputable def a5k:Hint:=mkHint 80 [[6],(rN 12 13),[1,7,25,26,27,28,29,30,31,32,33,34,35,36],[41,42,43],(rN 37 4),[63],[],[43],[9,45,46,47,48,49,50,51,52,53,54,55,56,57,58,59,60,61,62],[44],[0,64,65,66,67],[2],[78],[],[67],[11,70,71,72,73,74,75,76,77],[68,69],[8,79]] [(1,[[],[0],[0,1],[0,1,2],(rN 0 4),(rN 0 5),[],[6],[6,7],[6,7,8],(rN 6 4),(rN 6 5),(rN 0 12),(rN 0 13)],(rN 0 14)),(2,[[],[],[],[2],[],[4],[],[6],[],[8],(rN 0 10),(rN 0 11),(rN 0 12)],[0,1,2,4,5,6,7,8,9,3,10,11,12]),(6,[[],[0],[0,1],[0,1,2],[],[],[5],[5,6],[5,6,7],[],[],[10],[10,11],[10,11,12],[],[0,1,2,3,4,5,6,7,8,10,11,12,13],[0,1,2,3,4,5,6,7,8,10,11,12,13,15],[0,1,2,3,4,5,6,7,8,9,10,11,12,13,15,16],[0,1,2,3,4,5,6,7,8,9,10,11,12,13,15,16,17],(rN 0 19),(rN 0 20)],(rN 0 21)),(11,[[],[0],[0,1],[0,1,2],[],[],[4,5],(rN 0 7)],(rN 0 8))] [3]
noncomputable def a7D:Hint:=mkHint 51 [[1,4],[],[0,3,15,16,17,18],(rN 9 6),[49],[],[18],[7,8,29,30,31,32,33,34,35,36,37,38,39,40,41,42,43,44,45,46,47,48],[19,20],(rN 21 8),[5,50]] [(2,[[],[0],[0,1],[0,1,2],[],[4],(rN 0 6),(rN 0 7),[]],[0,1,2,3,4,5,8,6,7]),(6,[[],[],[1],[],[3],[3,4],[3,4,5],(rN 3 4),[],[8],[],[10],(rN 3 7),(rN 3 10),(rN 3 11),(rN 1 14),[],(rN 1 16),(rN 1 17),(rN 0 19),(rN 0 20)],(rN 0 21))] []
noncomputable def a6c:Hint:=mkHint 11 [[10],[2,4,5,6,7,8],[3,9]] [] []
noncomputable def a5l:Hint:=mkHint 66 [[4],[],[0,1,16,17,18,19],(rN 9 7),[64],[],[19],[8,62,63],[20,21,22],[6,23,24,25,26,27,28,29,30],[7,31,32,33,34,35,36,37,38,39,40,41,42,43,44,45,46,47,48,49,50,51,52,53,54,55,56,57,58,59,60,61],[5,65]] [(6,[[],[0],[0,1],[0,1,2],(rN 0 4),(rN 0 5),[0,1],(rN 0 7),(rN 0 8),(rN 0 9),(rN 0 10),(rN 0 11),(rN 0 12),(rN 0 13),(rN 0 14),(rN 0 15),(rN 0 16),(rN 0 17),(rN 0 18),(rN 0 15),(rN 0 20),(rN 0 21),(rN 0 15),[0,1,2,3,4,5,6,7,8,9,10,11,12,13,14,22],[0,1,2,3,4,5,6,7,8,9,10,11,12,13,14,22,23],[0,1,2,3,4,5,6,7,8,9,10,11,12,13,14,22,23,24],(rN 0 15),[0,1,2,3,4,5,6,7,8,9,10,11,12,13,14,22,23,24,25,26],[0,1,2,3,4,5,6,7,8,9,10,11,12,13,14,22,23,24,25,26,27],(rN 0 29),(rN 0 30),(rN 0 31)],(rN 0 32))] []
noncomputable def a3w:Hint:=mkHint 126 [[0],[106],[8,9],[13],[12],[1,10,11,14,15,16,17,18],[21],[11,20],[1,10,19,22,23,24,25,26,27],[19,29],[1,10,28,30,31,32,33,34,35,36],[40],[28,38],[39],[10,37,41],[1,4,54],[],[55,56],[54],(rN 42 12),(rN 57 8),[3,65],[68],[37,67],[10,66,69],[1,6,82],[],[83,84],[82],(rN 70 12),(rN 85 8),[5,93],[66,95],[1,10,94,96,97,98,99],[94,101],[1,10,100,102,103,104,105],[10,100,107],[1,106,108,109,110,111],[112,113,114],[1,7,115,116,117,118,119,120,121,122,123,124,125]] [(17,[[],[0],[],[],[2,3],[2,3,4],(rN 0 6),(rN 0 7),(rN 0 8)],(rN 0 9)),(25,[[],[0],[],[],[2,3],[2,3,4],(rN 0 6),(rN 0 7),(rN 0 8)],(rN 0 9)),(34,[[],[],[],[2],[2,3],[2,3,4],(rN 1 5),[],[2,3,4,5,7],[2,3,4,5,7,8],(rN 0 10),(rN 0 11)],[0,1,2,3,4,7,5,6,8,9,10,11])] [1,3,6,11,22]
noncomputable def a5m:Hint:=mkHint 47 [[3,4],[9],[7,8],[0,9,10],[11,12,13],[14,15],[29,30,31],[0,16,17,18,19,20,21,22,23,24,25,26,27,28],[5,36],(rN 32 4),[5,6,36,37,38,39,40,41,42,43,44,45],[6,46]] [(8,[[],[],[1],[1,2],[1,2,3],[],[5],[5,6],[5,6,7],[0],[0,1,2,3,4,9],(rN 0 11)],(rN 0 12))] [6]
noncomputable def a5n:Hint:=mkHint 34 [[0,3],[7,8],[1,9,10,11,12,13,14],[18],[15,16,17],[4,5,6,18,19],[5,6,20,21,22,23,24,25,26,27,28,29],[4,30,31,32,33]] [] []
noncomputable def a3R:Hint:=mkHint 71 [[0,5],[13,14,15],[],[1,2,6,8,19],[],[20,21],[19],[16,17,18],(rN 57 13),[],[10,23],[],[24,25],[23],[22],[12,48,49,50],(rN 26 7),[33,34,35],[11,37,44,45,46,47],[36],[37,38,39],[42],[40,41],[1,2,6,7,8,9,10,11,12,42,43],[9,51,52,53,54,55,56],[7,70]] [(10,[[],[],[],[1,2],[1,2,3],[],(rN 0 6),(rN 0 7)],(rN 0 8)),(19,[[],[0],[],[],[2,3],[2,3,4],[],[6],(rN 2 6),(rN 2 7),(rN 2 8),(rN 0 11),(rN 0 12),(rN 0 13)],(rN 0 14))] [3,8,10,18]
noncomputable def a3x:Hint:=mkHint 93 [[0],[11,12],[],(rN 13 4),[17],(rN 18 5),[1,3,5,6,7,26],[],[27,28],[26],[23,24,25],(rN 79 13),[],[9,30],[],[31,32],[30],[29],[10,63,64,65,66,67,68,69,70,71,72],(rN 33 10),[50,55,56,57,58,59,60,61,62],(rN 43 7),(rN 50 5),[8,73,74,75,76,77,78],[4,92]] [(13,[[],[0],[],[],[2,3],[2,3,4],[],(rN 0 6),(rN 0 8),(rN 0 9),(rN 0 10)],(rN 0 11)),(19,[[],[0],[],[2],[],[],[4,5],[4,5,6],(rN 2 6),(rN 2 7),(rN 2 8),(rN 0 11),(rN 0 12),(rN 0 13)],(rN 0 14))] [11,13,20]
noncomputable def a6V:Hint:=mkHint 30 [[2],[],[4,6],[],[7,8],[6],[5],(rN 14 7),(rN 9 5),[22],[0,21],[3,22],[25],[23,24],[3,25,26],[3,27,28,29]] [] [2]
noncomputable def a3c:Hint:=mkHint 24 [[1,4],[6,7],[19],[0,3,8,9,10,11,12,13,14,15,16,17,18],[5,19,20,21,22],[5,23]] [] []
noncomputable def a4r:Hint:=mkHint 35 [[4],[],[0,1,13],(rN 14 7),[13],(rN 6 7),(rN 21 10),[31,32],[5,33,34]] [] [2]
noncomputable def a5o:Hint:=mkHint 107 [[2,3],(rN 10 9),[20],[6,19],[0,4,5,20],(rN 21 11),[0,5,46,47,48,49],(rN 32 14),[105],[],[49],[8,9,89,90,91,92,93,94,95,96,97,98,99,100,101,102,103,104],[50,51],(rN 52 7),(rN 59 30),[4,106]] [(5,[[],[0],[0,1],[0,1,2],[],[4],[4,5],[4,5,6],[],[8],[8,9],[8,9,10],[],(rN 8 5),(rN 0 14),(rN 0 15),[]],[0,1,2,3,4,5,6,7,8,9,10,11,12,16,13,14,15]),(8,[[],[0],[0,1],[0,1,2],[],[4],(rN 0 6),(rN 0 7)],(rN 0 8)),(9,[[],[0],[0,1],[0,1,2],[],(rN 0 5),(rN 0 6),(rN 0 7),(rN 0 8),(rN 0 9),(rN 0 10),(rN 0 11),(rN 0 12),(rN 0 9),(rN 0 9),(rN 0 9),[0,1,2,3,4,5,6,7,8,15],[0,1,2,3,4,5,6,7,8,15,16],[0,1,2,3,4,5,6,7,8,15,16,17],[0,1,2,3,4,5,6,7,8,15,16,17,18],[0,1,2,3,4,5,6,7,8,15,16,17,18,19],[0,1,2,3,4,5,6,7,8,15,16,17,18,19,20],[0,1,2,3,4,5,6,7,8,15,16,17,18,19,20,21],(rN 0 9),[0,1,2,3,4,5,6,7,8,23],[0,1,2,3,4,5,6,7,8,15,16,17,18,19,20,21,22,23,24],[0,1,2,3,4,5,6,7,8,15,16,17,18,19,20,21,22,23,24,25],[0,1,2,3,4,5,6,7,8,15,16,17,18,19,20,21,22,23,24,25,26],[0,1,2,3,4,5,6,7,8,14,15,16,17,18,19,20,21,22,23,24,25,26,27],(rN 0 29),(rN 0 30)],(rN 0 31)),(10,[[],[0],[0,1],[0,1,2],[],[],[5],[5,6],[5,6,7],[],[],[10],[],[0,1,2,3,4,5,6,7,8,10,11],[0,1,2,3,4,5,6,7,8,10,11,13],(rN 0 15),(rN 0 16)],(rN 0 17))] [6]
noncomputable def a6d:Hint:=mkHint 22 [[],[0,1,5,6,7,8,9,10,11,12,13,14,15,16,17,18,19,20,21]] [(1,[[],[],[1],[1,2],[1,2,3],(rN 1 4),(rN 1 5),(rN 0 7),[],[],[9],[9,10],[9,10,11],(rN 9 4),(rN 9 5),(rN 8 7),(rN 0 16),(rN 0 17)],(rN 0 18))] []
noncomputable def a7E:Hint:=mkHint 17 [[1,4],[0,3,5,6,7,8,9,10,11,12,13,14,15,16]] [(1,[[],[0],[],[2],[2,3],[2,3,4],(rN 2 4),(rN 2 5),(rN 0 8),[],[9],(rN 0 11),(rN 0 12)],(rN 0 13))] []
noncomputable def a6e:Hint:=mkHint 28 [[4,5,6],(rN 10 4),[9],[7,8],(rN 14 14)] [(3,[[],[],[],[],[],[],[4,5],[4,5,6],[],[],[8,9],[8,9,10],[0,1,4,5,6,7,8,9,10,11],[0,1,4,5,6,7,8,9,10,11,12],(rN 0 14),(rN 0 15)],(rN 0 16))] []
noncomputable def a7F:Hint:=mkHint 8 [[2],[4],[3],[0,4],[0,5,6,7]] [] []
noncomputable def b5M:Hint:=mkHint 67 [[0,2],(rN 6 10),(rN 16 9),(rN 26 4),[1,25],[65],[],[29],[4,5,42,54,55,56,57,58,59,60,61,62,63,64],[30,31,32],(rN 33 9),(rN 42 12),[3,66]] [(1,[[],[0],[0,1],[0,1,2],[],[4],[4,5],[4,5,6],(rN 0 8),(rN 0 9),(rN 0 10)],(rN 0 11)),(2,[[],[],[1],[],[3],[3,4],(rN 1 5),(rN 0 7),(rN 0 8),(rN 0 9)],(rN 0 10)),(7,[[],[0],[0,1],[0,1,2],[],[4],(rN 0 6),[],[],[8],(rN 0 10)],(rN 0 11)),(8,[[],[0],[0,1],[0,1,2],[],[4],(rN 0 6),[],[],[8],(rN 0 10)],(rN 0 11))] []
noncomputable def b4a:Hint:=mkHint 29 [[2],[0,5,6,7,8,9,10],[16,17,18],(rN 11 5),[27],[],[18],[4,20,21,22,23,24,25,26],[19],[3,28]] [] []
noncomputable def a8m:Hint:=mkHint 57 [[6],[20],(rN 9 11),[0,1,2,20],[21,22],[23,24,25],[1,27],[26],[0,1,2,7,8,27,28,29,30,31,32,33],[],[44],(rN 34 10),[0,2,7,8,44],[0,2,45,46,47,48,49,50,51,52,53],[7,8,54,55,56],[]] [] []
noncomputable def b2P:Hint:=mkHint 15 [[4],[],[0,1,5,6,7,8,9,10,11,12,13,14]] [] []
noncomputable def a4s:Hint:=mkHint 15 [[4],[0,6,7,8],[1,10,11,12,13],[9],[5,14]] [] []
noncomputable def a3y:Hint:=mkHint 24 [[0],[9],(rN 5 4),[1,2,9,10,11,12,13,14,15],[1,2,16,17,18,19,20,21,22,23]] [] []
noncomputable def a1O:Hint:=mkHint 40 [[],[6,7,8],[0,19],(rN 27 5),(rN 9 5),[19],[4,5,14,15,16,17,18],(rN 20 7),[34],[32,33],[3,34,35,36,37],[3,38,39]] [] [2]
noncomputable def a1P:Hint:=mkHint 91 [[1,4,5],[18],[15,16,17],[0,3,18],[21],[19,20],[0,3,21,22,23,24,25,26],[27,28],[],[29,30,31],[34,35,36],[32,33],[9,10,46],[],[47,48],[46],(rN 37 9),[12,13,67,68,69,70,71,72,73,74],(rN 49 4),(rN 55 6),[53,54],[11,61,62,63,64,65,66],[75,76],[0,3,7,8,81,82,83,84,85,86,87,88],(rN 77 4),[6,14,89,90]] [] [10,12,19,23]
noncomputable def a5p:Hint:=mkHint 14 [[0,2],[4,5,6],(rN 7 4),[1,3,11,12,13]] [] []
noncomputable def a6f:Hint:=mkHint 54 [[0,6],[10,11,12],[1,2,8,17],[],[18,19],[17],(rN 13 4),[9,46,47,48,49,50],(rN 20 5),(rN 25 21),[3,7,51,52,53]] [] [2]
noncomputable def a6g:Hint:=mkHint 19 [[4],[0,1,5,9],[],[10,11],[9],[6,7,8],[17],(rN 12 5),[0,1,5,17,18],[]] [] []
noncomputable def a4t:Hint:=mkHint 38 [[0,2],(rN 8 4),[4,15],[],[16,17],[15],[12,13,14],(rN 22 4),(rN 18 4),[],[6,7,36,37],[3,26,27,28,29,30,31],[34],[5,32,33],[1,6,7,34,35]] [] [2]
noncomputable def a8n:Hint:=mkHint 22 [[4,5],[1,7,8,9,10],[12],[11],[0,6,12],[0,6,13,14,15,16,17,18,19,20,21]] [] []
noncomputable def a8o:Hint:=mkHint 23 [[2,3,4],[10],(rN 6 4),[0,10],[0,11,12,13,14,15,16,17],[5,18,19,20,21,22]] [(4,[[],[0],[],[2],[],[0,1],[0,1,2,3,5],(rN 0 7)],(rN 0 8))] []
noncomputable def a3S:Hint:=mkHint 8 [[2],[4],[3],[0,4],[0,5,6,7]] [] []
noncomputable def b3v:Hint:=mkHint 16 [[4],[0,1,5,6,7,8,9,10,11,12,13,14,15]] [] []
noncomputable def b1J:Hint:=mkHint 26 [] [(0,[[],[],[],[2],[2,3],[2,3,4],[],[6],(rN 2 6),[],[9],[9,10],[9,10,11],[],[13],(rN 2 13),[0,2,3,4,5,6,7,8,9,10,11,12,13,14,15],[0,2,3,4,5,6,7,8,9,10,11,12,13,14,15,16],[0,2,3,4,5,6,7,8,9,10,11,12,13,14,15,16,17],(rN 0 19),(rN 0 20),(rN 0 21)],[0,1,2,3,4,5,6,7,9,10,11,12,13,14,8,15,16,17,18,19,20,21])] []
noncomputable def a7G:Hint:=mkHint 7 [[2],[0,3,4,5,6]] [] []
noncomputable def a5q:Hint:=mkHint 12 [[1,4,5,6]] [] []
noncomputable def a6h:Hint:=mkHint 13 [(rN 4 5)] [] []
noncomputable def b0A:Hint:=mkHint 13 [[0,2],[4,5,6],[1,3,7,8,9,10,11,12]] [] []
noncomputable def b1K:Hint:=mkHint 16 [[],[10],[0,7,8,9],[1,2,10,11],[1,2,12,13,14,15]] [] []
noncomputable def a2a:Hint:=mkHint 37 [[],[6,7,8],[0,23],(rN 24 5),(rN 9 5),[23],[4,5,14,15,16,17,18,19,20,21,22],[31],[29,30],[3,31,32,33,34],[3,35,36]] [] [2]
noncomputable def a2b:Hint:=mkHint 30 [[2,3],[20],(rN 4 16),[0,20],[0,21,22,23,24,25,26,27,28,29]] [(1,[[],[0],[0,1],[0,1,2],[],[4],[4,5],[4,5,6],(rN 4 4),(rN 0 9),(rN 0 10),(rN 0 11),(rN 0 12),(rN 0 13),(rN 0 14),(rN 0 15),(rN 0 16)],(rN 0 17)),(3,[[],[0],[0,1],[0,1,2],[],[4],[4,5],[4,5,6],(rN 0 8),(rN 0 9),(rN 0 10)],(rN 0 11))] []
noncomputable def a1Q:Hint:=mkHint 75 [[1,4,5],[],[3,8,23],[],[24,25],[23],(rN 12 11),[9,10,36,37,38,39,40,41,42,43],(rN 26 10),[47],[44,45,46],[0,6,7,47],[0,11,52],[],[53,54],[52],(rN 48 4),(rN 55 11),[6,7,66,67,68,69,70,71,72,73,74]] [(12,[[],[],[],[1,2],[1,2,3],[],[],[6],[5,6,7],(rN 5 4),(rN 0 10)],(rN 0 11)),(13,[[],[0],[0,1],[],[],[4],[4,5],(rN 3 4),(rN 3 5),[0,1,2],(rN 0 10)],(rN 0 11))] [2,12]
noncomputable def a1m:Hint:=mkHint 27 [[2],[8],(rN 3 5),[0,8,9,10,11],[],(rN 12 9),[0,21,22,23,24,25,26]] [] []
noncomputable def a1R:Hint:=mkHint 136 [[1],[13],[16],[15,34],[33,40],[7,14,39],[45,46],[44],[41,42,43],(rN 54 7),(rN 47 7),[39,62],[7,14,61,63,64,65,66,67,68],[2,69,70,71,72],[4,73,74,75,76,77,78,79,80],[61,88],[2,7,14,87,89,90,91,92,93,94],[4,95,96,97,98,99,100,101,102],[87,110],[4,7,14,109,111,112,113,114,115,116],[2,117,118,119,120],[14,109,128]] [(3,[[],[],[1],[1,2],[1,2,3],(rN 1 4),[],[],[],[8],(rN 6 4),(rN 6 5),(rN 1 11),(rN 0 13),(rN 0 14),(rN 0 15),(rN 0 16)],(rN 0 17)),(15,[[],[],[1],[1,2],[],[4],[4,5],(rN 0 7)],(rN 0 8)),(19,[[],[],[1],[1,2],[],[4],[4,5],(rN 0 7)],(rN 0 8))] []
noncomputable def a4u:Hint:=mkHint 100 [[0,4],[1,14,15,16],[],[7,20],[],[21,22],[20],[17,18,19],(rN 26 5),[23,24,25],[31,32,33],[2,9,38],[],[39,40],[38],(rN 34 4),[10,46,47,48,49,50,51,52,53,54,55,56,57,58],(rN 41 5),[6,8,11,62],[],[63,64],[62],[59,60,61],[12,74],[],[75,76],[74],(rN 65 9),[13,91,95,96,97,98],(rN 77 10),(rN 87 4),(rN 91 4),[5,99]] [(13,[[],[],[1],[],[],[4],[3,4,5],(rN 3 4),[],[8],[8,9],(rN 3 8),(rN 0 12),(rN 0 13)],(rN 0 14))] [3,11,23]
noncomputable def a6i:Hint:=mkHint 21 [[4],[0,1,5,9],[],[10,11],[9],[6,7,8],[20],(rN 12 8),[0,1,5,20],[]] [(4,[[],[],[0,1],[0,1,2],[],[],[4,5],[4,5,6],(rN 0 8)],(rN 0 9))] []
noncomputable def a5r:Hint:=mkHint 51 [[0,4,5],[10,11,12],[],[1,2,8,16],[],[17,18],[16],[13,14,15],[9,44,45,46,47],[],[33],[34,35],[33],(rN 19 14),(rN 39 5),[36,37,38],[6,7,48,49,50]] [(7,[[],[],[1],[0,1,2],(rN 0 4),(rN 0 5),(rN 0 5),(rN 0 5),(rN 0 5),[0,1,2,3,4,7,8],[0,1,2,3,4,7,8,9],(rN 0 5),(rN 0 12),(rN 0 13),(rN 0 14)],(rN 0 15))] [3,8,10,14]
noncomputable def a7H:Hint:=mkHint 8 [[2],[0,3,4,5,6,7]] [] []
noncomputable def a6j:Hint:=mkHint 15 [[2],[4,5,6],[7,8,9],[3,10,11,12],[0,13,14]] [] []
noncomputable def a6W:Hint:=mkHint 23 [[4,22],[5,6,7],[17],(rN 8 9),[1,18,19,20,21]] [] []
noncomputable def a5s:Hint:=mkHint 48 [[6],[11],[0,2,8,9,21,39],[9,44],[12,13,14],[21],(rN 15 6),[22],[10,33,34],[23,24],[8,25,26,27,28,29,30,31,32],[39],(rN 35 4),[7,40,41,42,43],[1,7,45,46,47]] [] [2,8]
noncomputable def a1S:Hint:=mkHint 52 [[],[6,7],(rN 45 7),(rN 8 5),[14],[5,13],[0,3,4,14,15],[16,18,20,21,22,23,25,26,27,28,30,31,32],[4],[19],[18,24],[23,29],[16,28,34],[33,35,36,37,38,39,40,41],[42,43,44],[0,3,17,33]] [] [7]
noncomputable def a1T:Hint:=mkHint 20 [] [] []
noncomputable def a0z:Hint:=mkHint 69 [[1],(rN 16 7),[14,15],[4,5,12,26],[],[27,28],[26],[23,24,25],(rN 50 12),(rN 29 5),(rN 41 8),(rN 34 7),[13,49],[7,62,63]] [(10,[[],[],[],[1,2],[1,2,3],[],[],[6],[5,6,7],(rN 5 4),(rN 0 10)],(rN 0 11))] [1,3,10]
noncomputable def a5t:Hint:=mkHint 44 [[0,8],[18],(rN 10 8),[1,2,3,4,18],[1,2,3,4,9,20],[],[21,22],[20],[19],[43],(rN 23 20),[1,2,3,4,9,43],[]] [(1,[[],[],[0,1],[0,1,2],[],[],[4,5],[4,5,6],(rN 0 8)],(rN 0 9)),(6,[[],[],[1],[],[],[1,2,3],(rN 1 5),(rN 1 6),(rN 0 8),(rN 0 9),[],[],[11],[],[],[11,12,13],(rN 11 5),(rN 11 6),(rN 10 8),(rN 10 9),(rN 0 20)],(rN 0 21))] []
noncomputable def a2c:Hint:=mkHint 72 [[],(rN 5 5),[11],[4,10],[0,3,11,12,13],[22],(rN 14 8),[0,3,22,23,24],(rN 25 7),[58],[33,34,35],[0,3,32,36,37,38,39,40],[32,42,43],[0,3,41,44],[41,46,47],[0,3,45,48],[45,50,51],[0,3,49,52],[49,54,55],[0,3,53,56,57],[3,53,59,60],[0,58,61,62],(rN 63 7),[0,70,71]] [] []
noncomputable def a1U:Hint:=mkHint 94 [[1],(rN 10 5),[],[7,16],[],[17,18],[16],[15],(rN 69 7),(rN 19 5),[9,33],(rN 24 9),[5,34,35,36,37,38],[3,6,7,8,9,33],[0,39,40],[8,41,42,43,44,45],(rN 46 7),(rN 53 5),[66],[8,9,58,59,60,61,62,63,64,65],[0,3,5,6,7,66,67,68],[0,5,80],(rN 76 4),[3,5,6,80,81,82,83,84],[0,85,86],[3,6,87,88,89,90,91,92,93]] [] [3]
noncomputable def a6k:Hint:=mkHint 13 [[2],[0,3,5],[],[6,7],[5],[4],[11],[8,9,10],[0,3,11,12],[]] [] []
noncomputable def a1V:Hint:=mkHint 51 [[],[],(rN 44 7),(rN 6 5),[19],(rN 11 8),[0,4,5,19,20,21,22,23,24,25,26],[3,27,28],[35],[5,29,30,31,32,33,34],[0,3,4,35,36,37],[4,38,39,40,41,42,43]] [] []
noncomputable def a1W:Hint:=mkHint 43 [[],(rN 6 7),[13,14],(rN 15 5),[25],[4,5,20,21,22,23,24],[0,3,25,26,27],(rN 28 7),[0,35,36,37,38,39,40,41],[3,42]] [] []
noncomputable def a6X:Hint:=mkHint 20 [[0,1,4],[9],(rN 5 4),[2,3,9,10,11,12,13,14],[2,3,15,16,17,18,19]] [] []
noncomputable def a6Y:Hint:=mkHint 24 [[6],[],[0,1,2,7,8,9,10,11,12,13,14,15,16,17,18,19,20,21,22,23]] [(2,[[],[],[1],[1,2],[1,2,3],[],(rN 1 5),(rN 1 6),[],[8],[8,9],[8,9,10],[],(rN 8 5),(rN 8 6),(rN 0 15),(rN 0 16)],(rN 0 17))] []
noncomputable def a7I:Hint:=mkHint 36 [[2],(rN 5 6),(rN 11 7),[3,18,19,20,21,22,23,24,25,26],[0,27,28,29,30,31,32,33],[4,34,35]] [(4,[[],[0],[0,1],[0,1,2],[],[4],(rN 0 6),(rN 0 7)],(rN 0 8))] []
noncomputable def a6Z:Hint:=mkHint 34 [[1,6,7,8,9,10],[5],(rN 11 13)] [(2,[[],[0],[0,1],[0,1,2],[],[4],[],[6],[6,7],[6,7,8],(rN 6 4),(rN 0 11),(rN 0 12)],(rN 0 13)),(3,[[],[],[1],[1,2],[1,2,3],[],[5],(rN 1 6),(rN 0 8),(rN 0 9),(rN 0 10)],(rN 0 11))] []
noncomputable def a7a:Hint:=mkHint 60 [(rN 6 26)] [(0,[[],[0],[0,1],[0,1,2],[],[],[5],[5,6],[5,6,7],[],[],[10],[10,11],[10,11,12],[],(rN 10 5),(rN 10 6),[],[17],[17,18],[17,18,19],[],(rN 17 5),(rN 17 6),[0,1,2,3,4,5,6,7,8,10,11,12,13,14,15,16,17,18,19,20,21,22,23],[0,1,2,3,4,5,6,7,8,10,11,12,13,14,15,16,17,18,19,20,21,22,23,24],(rN 0 26),(rN 0 27)],(rN 0 28)),(1,[[],[0],[0,1],[0,1,2],[],[4],[4,5],[4,5,6],[],(rN 4 5),(rN 4 6),(rN 4 7),[],[12],[12,13],[12,13,14],[],[16],[16,17],[16,17,18],[],(rN 16 5),(rN 16 6),(rN 16 7),[],[],(rN 0 25),[0,1,2,3,4,5,6,7,8,9,10,11,12,13,14,15,16,17,18,19,20,21,22,23,24,26],(rN 0 28),(rN 0 29)],(rN 0 30))] []
noncomputable def a6l:Hint:=mkHint 23 [[4],[15],(rN 5 10),[0,1,15],[0,1,16,17,18,19,20,21,22]] [] []
noncomputable def hints:FuncId→Option Hint:=fun f=>List.lookup f [(8,a1Z),(15,a5j),(16,a6T),(17,a5Z),(18,a3P),(19,a4p),(21,b0y),(23,a6U),(24,a3Q),(25,a6a),(27,b0z),(37,a6b),(38,a4q),(39,b1I),(40,a5k),(41,a7D),(42,a6c),(43,a5l),(45,a3w),(46,a5m),(47,a5n),(48,a3R),(49,a3x),(50,a6V),(51,a3c),(54,a4r),(58,a5o),(59,a6d),(60,a7E),(69,a6e),(71,a7F),(77,b5M),(78,b4a),(79,a8m),(80,b2P),(81,a4s),(82,a3y),(83,a1O),(85,a1P),(86,a5p),(87,a6f),(88,a6g),(89,a4t),(94,a8n),(95,a8o),(107,a3S),(108,b3v),(109,b1J),(110,a7G),(111,a5q),(112,a6h),(113,b0A),(114,b1K),(115,a2a),(116,a2b),(117,a1Q),(118,a1m),(119,a1R),(120,a4u),(121,a6i),(122,a5r),(123,a7H),(124,a6j),(126,a6W),(127,a5s),(128,a1S),(129,a1T),(130,a0z),(131,a5t),(132,a2c),(133,a1U),(134,a6k),(135,a1V),(136,a1W),(155,a6X),(156,a6Y),(157,a7I),(158,a6Z),(159,a7a),(160,a6l)]
noncomputable def tab:Tab:=tabOf Go.Proofs.Try.prog hints meths
theorem a6M:tab.fn v2_=some t5_:=a2_ (H:=a1Z) (by kernel_rfl) Go.Proofs.Try.func8 (by kernel_rfl)
theorem a9R:tab.fn l9_=some a0D:=a2_ (H:=a5j) (by kernel_rfl) Go.Proofs.Try.func15 (by kernel_rfl)
theorem b1L:tab.fn s3_=some a2g:=a2_ (H:=a6T) (by kernel_rfl) Go.Proofs.Try.func16 (by kernel_rfl)
theorem b0T:tab.fn g2_=some a1r:=a2_ (H:=a5Z) (by kernel_rfl) Go.Proofs.Try.func17 (by kernel_rfl)
theorem a8B:tab.fn j7_=some y0_:=a2_ (H:=a3P) (by kernel_rfl) Go.Proofs.Try.func18 (by kernel_rfl)
theorem a9j:tab.fn e2_=some a0e:=a2_ (H:=a4p) (by kernel_rfl) Go.Proofs.Try.func19 (by kernel_rfl)
theorem b3S:tab.fn d8_=some a4y:=a2_ (H:=b0y) (by kernel_rfl) Go.Proofs.Try.func21 (by kernel_rfl)
theorem b1M:tab.fn s4_=some a2h:=a2_ (H:=a6U) (by kernel_rfl) Go.Proofs.Try.func23 (by kernel_rfl)
theorem a8C:tab.fn j8_=some y2_:=a2_ (H:=a3Q) (by kernel_rfl) Go.Proofs.Try.func24 (by kernel_rfl)
theorem b0U:tab.fn g3_=some a1t:=a2_ (H:=a6a) (by kernel_rfl) Go.Proofs.Try.func25 (by kernel_rfl)
theorem b3T:tab.fn h0_=some a4z:=a2_ (H:=b0z) (by kernel_rfl) Go.Proofs.Try.func27 (by kernel_rfl)
theorem b0V:tab.fn g4_=some a1v:=a2_ (H:=a6b) (by kernel_rfl) Go.Proofs.Try.func37 (by kernel_rfl)
theorem a9k:tab.fn a3_=some a0f:=a2_ (H:=a4q) (by kernel_rfl) Go.Proofs.Try.func38 (by kernel_rfl)
theorem b4s:tab.fn t2_=some a5P:=a2_ (H:=b1I) (by kernel_rfl) Go.Proofs.Try.func39 (by kernel_rfl)
theorem a9S:tab.fn f1_=some a0F:=a2_ (H:=a5k) (by kernel_rfl) Go.Proofs.Try.func40 (by kernel_rfl)
theorem b2y:tab.fn g0_=some a2A:=a2_ (H:=a7D) (by kernel_rfl) Go.Proofs.Try.func41 (by kernel_rfl)
theorem b0W:tab.fn d9_=some a1w:=a2_ (H:=a6c) (by kernel_rfl) Go.Proofs.Try.func42 (by kernel_rfl)
theorem a9T:tab.fn f2_=some a0H:=a2_ (H:=a5l) (by kernel_rfl) Go.Proofs.Try.func43 (by kernel_rfl)
theorem a8f:tab.fn d0_=some w9_:=a2_ (H:=a3w) (by kernel_rfl) Go.Proofs.Try.func45 (by kernel_rfl)
theorem a9U:tab.fn m0_=some a0I:=a2_ (H:=a5m) (by kernel_rfl) Go.Proofs.Try.func46 (by kernel_rfl)
theorem a9V:tab.fn m1_=some a0K:=a2_ (H:=a5n) (by kernel_rfl) Go.Proofs.Try.func47 (by kernel_rfl)
theorem a8D:tab.fn j9_=some y4_:=a2_ (H:=a3R) (by kernel_rfl) Go.Proofs.Try.func48 (by kernel_rfl)
theorem a8g:tab.fn i8_=some x2_:=a2_ (H:=a3x) (by kernel_rfl) Go.Proofs.Try.func49 (by kernel_rfl)
theorem b1N:tab.fn s5_=some a2k:=a2_ (H:=a6V) (by kernel_rfl) Go.Proofs.Try.func50 (by kernel_rfl)
theorem a7J:tab.fn h1_=some w5_:=a2_ (H:=a3c) (by kernel_rfl) Go.Proofs.Try.func51 (by kernel_rfl)
theorem a9l:tab.fn k6_=some a0i:=a2_ (H:=a4r) (by kernel_rfl) Go.Proofs.Try.func54 (by kernel_rfl)
theorem a9W:tab.fn h5_=some a0N:=a2_ (H:=a5o) (by kernel_rfl) Go.Proofs.Try.func58 (by kernel_rfl)
theorem b0X:tab.fn o0_=some a1B:=a2_ (H:=a6d) (by kernel_rfl) Go.Proofs.Try.func59 (by kernel_rfl)
theorem b2z:tab.fn e0_=some a2B:=a2_ (H:=a7E) (by kernel_rfl) Go.Proofs.Try.func60 (by kernel_rfl)
theorem b0Y:tab.fn o1_=some a1C:=a2_ (H:=a6e) (by kernel_rfl) Go.Proofs.Try.func69 (by kernel_rfl)
theorem b2A:tab.fn i9_=some a2C:=a2_ (H:=a7F) (by kernel_rfl) Go.Proofs.Try.func71 (by kernel_rfl)
theorem b7h:tab.fn a7v=some b2n:=a2_ (H:=b5M) (by kernel_rfl) Go.Proofs.Try.func77 (by kernel_rfl)
theorem b5Z:tab.fn a3X=some a9f:=a2_ (H:=b4a) (by kernel_rfl) Go.Proofs.Try.func78 (by kernel_rfl)
theorem b3b:tab.fn g8_=some a3p:=a2_ (H:=a8m) (by kernel_rfl) Go.Proofs.Try.func79 (by kernel_rfl)
theorem b4Y:tab.fn a2t=some a7j:=a2_ (H:=b2P) (by kernel_rfl) Go.Proofs.Try.func80 (by kernel_rfl)
theorem a9m:tab.fn a7_=some a0k:=a2_ (H:=a4s) (by kernel_rfl) Go.Proofs.Try.func81 (by kernel_rfl)
theorem a8h:tab.fn a9_=some x4_:=a2_ (H:=a3y) (by kernel_rfl) Go.Proofs.Try.func82 (by kernel_rfl)
theorem a6m:tab.fn c0_=some p7_:=a2_ (H:=a1O) (by kernel_rfl) Go.Proofs.Try.func83 (by kernel_rfl)
theorem a6n:tab.fn b3_=some q0_:=a2_ (H:=a1P) (by kernel_rfl) Go.Proofs.Try.func85 (by kernel_rfl)
theorem a9X:tab.fn m2_=some a0O:=a2_ (H:=a5p) (by kernel_rfl) Go.Proofs.Try.func86 (by kernel_rfl)
theorem b0Z:tab.fn o2_=some a1F:=a2_ (H:=a6f) (by kernel_rfl) Go.Proofs.Try.func87 (by kernel_rfl)
theorem b1a:tab.fn o3_=some a1G:=a2_ (H:=a6g) (by kernel_rfl) Go.Proofs.Try.func88 (by kernel_rfl)
theorem a9n:tab.fn k7_=some a0m:=a2_ (H:=a4t) (by kernel_rfl) Go.Proofs.Try.func89 (by kernel_rfl)
theorem b3c:tab.fn a1n=some a3s:=a2_ (H:=a8n) (by kernel_rfl) Go.Proofs.Try.func94 (by kernel_rfl)
theorem b3d:tab.fn p4_=some a3t:=a2_ (H:=a8o) (by kernel_rfl) Go.Proofs.Try.func95 (by kernel_rfl)
theorem a8E:tab.fn k0_=some y9_:=a2_ (H:=a3S) (by kernel_rfl) Go.Proofs.Try.func107 (by kernel_rfl)
theorem b5m:tab.fn o4_=some a8b:=a2_ (H:=b3v) (by kernel_rfl) Go.Proofs.Try.func108 (by kernel_rfl)
theorem b4t:tab.fn t3_=some a5T:=a2_ (H:=b1J) (by kernel_rfl) Go.Proofs.Try.func109 (by kernel_rfl)
theorem b2B:tab.fn c9_=some a2D:=a2_ (H:=a7G) (by kernel_rfl) Go.Proofs.Try.func110 (by kernel_rfl)
theorem a9Y:tab.fn h6_=some a0P:=a2_ (H:=a5q) (by kernel_rfl) Go.Proofs.Try.func111 (by kernel_rfl)
theorem b1b:tab.fn j2_=some a1H:=a2_ (H:=a6h) (by kernel_rfl) Go.Proofs.Try.func112 (by kernel_rfl)
theorem b3U:tab.fn a0w=some a4F:=a2_ (H:=b0A) (by kernel_rfl) Go.Proofs.Try.func113 (by kernel_rfl)
theorem b4u:tab.fn a1o=some a5U:=a2_ (H:=b1K) (by kernel_rfl) Go.Proofs.Try.func114 (by kernel_rfl)
theorem a6N:tab.fn c3_=some t9_:=a2_ (H:=a2a) (by kernel_rfl) Go.Proofs.Try.func115 (by kernel_rfl)
theorem a6O:tab.fn a4_=some u1_:=a2_ (H:=a2b) (by kernel_rfl) Go.Proofs.Try.func116 (by kernel_rfl)
theorem a6o:tab.fn f3_=some q4_:=a2_ (H:=a1Q) (by kernel_rfl) Go.Proofs.Try.func117 (by kernel_rfl)
theorem a5B:tab.fn b5_=some p2_:=a2_ (H:=a1m) (by kernel_rfl) Go.Proofs.Try.func118 (by kernel_rfl)
theorem a6p:tab.fn f4_=some q6_:=a2_ (H:=a1R) (by kernel_rfl) Go.Proofs.Try.func119 (by kernel_rfl)
theorem a9o:tab.fn e3_=some a0q:=a2_ (H:=a4u) (by kernel_rfl) Go.Proofs.Try.func120 (by kernel_rfl)
theorem b1c:tab.fn o5_=some a1K:=a2_ (H:=a6i) (by kernel_rfl) Go.Proofs.Try.func121 (by kernel_rfl)
theorem a9Z:tab.fn m3_=some a0R:=a2_ (H:=a5r) (by kernel_rfl) Go.Proofs.Try.func122 (by kernel_rfl)
theorem b2C:tab.fn m4_=some a2E:=a2_ (H:=a7H) (by kernel_rfl) Go.Proofs.Try.func123 (by kernel_rfl)
theorem b1d:tab.fn o6_=some a1L:=a2_ (H:=a6j) (by kernel_rfl) Go.Proofs.Try.func124 (by kernel_rfl)
theorem b1O:tab.fn g9_=some a2m:=a2_ (H:=a6W) (by kernel_rfl) Go.Proofs.Try.func126 (by kernel_rfl)
theorem b0a:tab.fn d3_=some a0V:=a2_ (H:=a5s) (by kernel_rfl) Go.Proofs.Try.func127 (by kernel_rfl)
theorem a6q:tab.fn c1_=some q9_:=a2_ (H:=a1S) (by kernel_rfl) Go.Proofs.Try.func128 (by kernel_rfl)
theorem a6r:tab.fn a0_=some r0_:=a2_ (H:=a1T) (by kernel_rfl) Go.Proofs.Try.func129 (by kernel_rfl)
theorem a4M:tab.fn e1_=some n7_:=a2_ (H:=a0z) (by kernel_rfl) Go.Proofs.Try.func130 (by kernel_rfl)
theorem b0b:tab.fn m5_=some a0W:=a2_ (H:=a5t) (by kernel_rfl) Go.Proofs.Try.func131 (by kernel_rfl)
theorem a6P:tab.fn g1_=some u2_:=a2_ (H:=a2c) (by kernel_rfl) Go.Proofs.Try.func132 (by kernel_rfl)
theorem a6s:tab.fn f5_=some r3_:=a2_ (H:=a1U) (by kernel_rfl) Go.Proofs.Try.func133 (by kernel_rfl)
theorem b1e:tab.fn b4_=some a1M:=a2_ (H:=a6k) (by kernel_rfl) Go.Proofs.Try.func134 (by kernel_rfl)
theorem a6t:tab.fn f6_=some r4_:=a2_ (H:=a1V) (by kernel_rfl) Go.Proofs.Try.func135 (by kernel_rfl)
theorem a6u:tab.fn f7_=some r5_:=a2_ (H:=a1W) (by kernel_rfl) Go.Proofs.Try.func136 (by kernel_rfl)
theorem b1P:tab.fn s6_=some a2n:=a2_ (H:=a6X) (by kernel_rfl) Go.Proofs.Try.func155 (by kernel_rfl)
theorem b1Q:tab.fn z5_=some a2o:=a2_ (H:=a6Y) (by kernel_rfl) Go.Proofs.Try.func156 (by kernel_rfl)
theorem b2D:tab.fn a0x=some a2F:=a2_ (H:=a7I) (by kernel_rfl) Go.Proofs.Try.func157 (by kernel_rfl)
theorem b1R:tab.fn z6_=some a2p:=a2_ (H:=a6Z) (by kernel_rfl) Go.Proofs.Try.func158 (by kernel_rfl)
theorem b1S:tab.fn s7_=some a2q:=a2_ (H:=a7a) (by kernel_rfl) Go.Proofs.Try.func159 (by kernel_rfl)
theorem b1f:tab.fn w8_=some a1N:=a2_ (H:=a6l) (by kernel_rfl) Go.Proofs.Try.func160 (by kernel_rfl)
theorem a6v (k:Nat)(x0 x1 x2 x3 x4:AV)(h:Heap):evalFn tab (k+1) v2_ [x0,x1,x2,x3,x4] h=runF tab k t5_ [x0,x1,x2,x3,x4] h:=a1_ a6M k _ h
theorem a9p (k:Nat)(h:Heap):evalFn tab (k+1) l9_ [] h=runF tab k a0D [] h:=a1_ a9R k _ h
theorem b1g (k:Nat)(x0:AV)(h:Heap):evalFn tab (k+1) s3_ [x0] h=runF tab k a2g [x0] h:=a1_ b1L k _ h
theorem b0c (k:Nat)(x0 x1 x2:AV)(h:Heap):evalFn tab (k+1) g2_ [x0,x1,x2] h=runF tab k a1r [x0,x1,x2] h:=a1_ b0T k _ h
theorem a8i (k:Nat)(x0:AV)(h:Heap):evalFn tab (k+1) j7_ [x0] h=runF tab k y0_ [x0] h:=a1_ a8B k _ h
theorem a8F (k:Nat)(x0 x1:AV)(h:Heap):evalFn tab (k+1) e2_ [x0,x1] h=runF tab k a0e [x0,x1] h:=a1_ a9j k _ h
theorem a7K (k:Nat)(x0 x1 x2:AV)(h:Heap):evalFn tab (k+1) d8_ [x0,x1,x2] h=runF tab k a4y [x0,x1,x2] h:=a1_ b3S k _ h
theorem b1h (k:Nat)(x0:AV)(h:Heap):evalFn tab (k+1) s4_ [x0] h=runF tab k a2h [x0] h:=a1_ b1M k _ h
theorem a8j (k:Nat)(x0:AV)(h:Heap):evalFn tab (k+1) j8_ [x0] h=runF tab k y2_ [x0] h:=a1_ a8C k _ h
theorem b0d (k:Nat)(x0:AV)(h:Heap):evalFn tab (k+1) g3_ [x0] h=runF tab k a1t [x0] h:=a1_ b0U k _ h
theorem b3w (k:Nat)(x0 x1 x2 x3:AV)(h:Heap):evalFn tab (k+1) h0_ [x0,x1,x2,x3] h=runF tab k a4z [x0,x1,x2,x3] h:=a1_ b3T k _ h
theorem a3T (k:Nat)(x0 x1:AV)(h:Heap):evalFn tab (k+1) g4_ [x0,x1] h=runF tab k a1v [x0,x1] h:=a1_ b0V k _ h
theorem a8G (k:Nat)(x0 x1:AV)(h:Heap):evalFn tab (k+1) a3_ [x0,x1] h=runF tab k a0f [x0,x1] h:=a1_ a9k k _ h
theorem b3V (k:Nat)(x0 x1:AV)(h:Heap):evalFn tab (k+1) t2_ [x0,x1] h=runF tab k a5P [x0,x1] h:=a1_ b4s k _ h
theorem a9q (k:Nat)(x0 x1 x2:AV)(h:Heap):evalFn tab (k+1) f1_ [x0,x1,x2] h=runF tab k a0F [x0,x1,x2] h:=a1_ a9S k _ h
theorem b1T (k:Nat)(x0 x1:AV)(h:Heap):evalFn tab (k+1) g0_ [x0,x1] h=runF tab k a2A [x0,x1] h:=a1_ b2y k _ h
theorem b0e (k:Nat)(x0:AV)(h:Heap):evalFn tab (k+1) d9_ [x0] h=runF tab k a1w [x0] h:=a1_ b0W k _ h
theorem a9r (k:Nat)(x0 x1:AV)(h:Heap):evalFn tab (k+1) f2_ [x0,x1] h=runF tab k a0H [x0,x1] h:=a1_ a9T k _ h
theorem a7L (k:Nat)(x0:AV)(h:Heap):evalFn tab (k+1) d0_ [x0] h=runF tab k w9_ [x0] h:=a1_ a8f k _ h
theorem a9s (k:Nat)(x0:AV)(h:Heap):evalFn tab (k+1) m0_ [x0] h=runF tab k a0I [x0] h:=a1_ a9U k _ h
theorem a9t (k:Nat)(x0:AV)(h:Heap):evalFn tab (k+1) m1_ [x0] h=runF tab k a0K [x0] h:=a1_ a9V k _ h
theorem a8k (k:Nat)(x0 x1:AV)(h:Heap):evalFn tab (k+1) j9_ [x0,x1] h=runF tab k y4_ [x0,x1] h:=a1_ a8D k _ h
theorem a7M (k:Nat)(x0:AV)(h:Heap):evalFn tab (k+1) i8_ [x0] h=runF tab k x2_ [x0] h:=a1_ a8g k _ h
theorem b1i (k:Nat)(x0:AV)(h:Heap):evalFn tab (k+1) s5_ [x0] h=runF tab k a2k [x0] h:=a1_ b1N k _ h
theorem a7o (k:Nat)(x0 x1:AV)(h:Heap):evalFn tab (k+1) h1_ [x0,x1] h=runF tab k w5_ [x0,x1] h:=a1_ a7J k _ h
theorem a8H (k:Nat)(x0 x1:AV)(h:Heap):evalFn tab (k+1) k6_ [x0,x1] h=runF tab k a0i [x0,x1] h:=a1_ a9l k _ h
theorem a9u (k:Nat)(x0:AV)(h:Heap):evalFn tab (k+1) h5_ [x0] h=runF tab k a0N [x0] h:=a1_ a9W k _ h
theorem b0f (k:Nat)(x0 x1:AV)(h:Heap):evalFn tab (k+1) o0_ [x0,x1] h=runF tab k a1B [x0,x1] h:=a1_ b0X k _ h
theorem b1U (k:Nat)(x0 x1:AV)(h:Heap):evalFn tab (k+1) e0_ [x0,x1] h=runF tab k a2B [x0,x1] h:=a1_ b2z k _ h
theorem b0g (k:Nat)(x0:AV)(h:Heap):evalFn tab (k+1) o1_ [x0] h=runF tab k a1C [x0] h:=a1_ b0Y k _ h
theorem b1V (k:Nat)(x0:AV)(h:Heap):evalFn tab (k+1) i9_ [x0] h=runF tab k a2C [x0] h:=a1_ b2A k _ h
theorem b6w (k:Nat)(x0:AV)(h:Heap):evalFn tab (k+1) a7v [x0] h=runF tab k b2n [x0] h:=a1_ b7h k _ h
theorem b5n (k:Nat)(x0:AV)(h:Heap):evalFn tab (k+1) a3X [x0] h=runF tab k a9f [x0] h:=a1_ b5Z k _ h
theorem b2E (k:Nat)(x0 x1 x2:AV)(h:Heap):evalFn tab (k+1) g8_ [x0,x1,x2] h=runF tab k a3p [x0,x1,x2] h:=a1_ b3b k _ h
theorem b4v (k:Nat)(x0 x1:AV)(h:Heap):evalFn tab (k+1) a2t [x0,x1] h=runF tab k a7j [x0,x1] h:=a1_ b4Y k _ h
theorem a8I (k:Nat)(x0 x1:AV)(h:Heap):evalFn tab (k+1) a7_ [x0,x1] h=runF tab k a0k [x0,x1] h:=a1_ a9m k _ h
theorem a7N (k:Nat)(x0 x1:AV)(h:Heap):evalFn tab (k+1) a9_ [x0,x1] h=runF tab k x4_ [x0,x1] h:=a1_ a8h k _ h
theorem a5C (k:Nat)(x0:AV)(h:Heap):evalFn tab (k+1) c0_ [x0] h=runF tab k p7_ [x0] h:=a1_ a6m k _ h
theorem a0d (k:Nat)(x0 x1:AV)(h:Heap):evalFn tab (k+1) b3_ [x0,x1] h=runF tab k q0_ [x0,x1] h:=a1_ a6n k _ h
theorem a9v (k:Nat)(x0:AV)(h:Heap):evalFn tab (k+1) m2_ [x0] h=runF tab k a0O [x0] h:=a1_ a9X k _ h
theorem b0h (k:Nat)(x0 x1 x2:AV)(h:Heap):evalFn tab (k+1) o2_ [x0,x1,x2] h=runF tab k a1F [x0,x1,x2] h:=a1_ b0Z k _ h
theorem b0i (k:Nat)(x0 x1:AV)(h:Heap):evalFn tab (k+1) o3_ [x0,x1] h=runF tab k a1G [x0,x1] h:=a1_ b1a k _ h
theorem a8J (k:Nat)(x0:AV)(h:Heap):evalFn tab (k+1) k7_ [x0] h=runF tab k a0m [x0] h:=a1_ a9n k _ h
theorem b2F (k:Nat)(x0 x1:AV)(h:Heap):evalFn tab (k+1) a1n [x0,x1] h=runF tab k a3s [x0,x1] h:=a1_ b3c k _ h
theorem b2G (k:Nat)(x0:AV)(h:Heap):evalFn tab (k+1) p4_ [x0] h=runF tab k a3t [x0] h:=a1_ b3d k _ h
theorem a8l (k:Nat)(x0:AV)(h:Heap):evalFn tab (k+1) k0_ [x0] h=runF tab k y9_ [x0] h:=a1_ a8E k _ h
theorem b4Z (k:Nat)(x0 x1:AV)(h:Heap):evalFn tab (k+1) o4_ [x0,x1] h=runF tab k a8b [x0,x1] h:=a1_ b5m k _ h
theorem b3W (k:Nat)(x0 x1 x2:AV)(h:Heap):evalFn tab (k+1) t3_ [x0,x1,x2] h=runF tab k a5T [x0,x1,x2] h:=a1_ b4t k _ h
theorem b1W (k:Nat)(x0:AV)(h:Heap):evalFn tab (k+1) c9_ [x0] h=runF tab k a2D [x0] h:=a1_ b2B k _ h
theorem a9w (k:Nat)(x0 x1:AV)(h:Heap):evalFn tab (k+1) h6_ [x0,x1] h=runF tab k a0P [x0,x1] h:=a1_ a9Y k _ h
theorem b0j (k:Nat)(x0 x1:AV)(h:Heap):evalFn tab (k+1) j2_ [x0,x1] h=runF tab k a1H [x0,x1] h:=a1_ b1b k _ h
theorem b3x (k:Nat)(x0:AV)(h:Heap):evalFn tab (k+1) a0w [x0] h=runF tab k a4F [x0] h:=a1_ b3U k _ h
theorem b3X (k:Nat)(x0 x1 x2:AV)(h:Heap):evalFn tab (k+1) a1o [x0,x1,x2] h=runF tab k a5U [x0,x1,x2] h:=a1_ b4u k _ h
theorem a6w (k:Nat)(x0:AV)(h:Heap):evalFn tab (k+1) c3_ [x0] h=runF tab k t9_ [x0] h:=a1_ a6N k _ h
theorem a0A (k:Nat)(x0:AV)(h:Heap):evalFn tab (k+1) a4_ [x0] h=runF tab k u1_ [x0] h:=a1_ a6O k _ h
theorem a5D (k:Nat)(x0 x1:AV)(h:Heap):evalFn tab (k+1) f3_ [x0,x1] h=runF tab k q4_ [x0,x1] h:=a1_ a6o k _ h
theorem a4N (k:Nat)(x0:AV)(h:Heap):evalFn tab (k+1) b5_ [x0] h=runF tab k p2_ [x0] h:=a1_ a5B k _ h
theorem a5E (k:Nat)(x0 x1 x2 x3 x4 x5:AV)(h:Heap):evalFn tab (k+1) f4_ [x0,x1,x2,x3,x4,x5] h=runF tab k q6_ [x0,x1,x2,x3,x4,x5] h:=a1_ a6p k _ h
theorem a8K (k:Nat)(x0 x1:AV)(h:Heap):evalFn tab (k+1) e3_ [x0,x1] h=runF tab k a0q [x0,x1] h:=a1_ a9o k _ h
theorem b0k (k:Nat)(x0 x1:AV)(h:Heap):evalFn tab (k+1) o5_ [x0,x1] h=runF tab k a1K [x0,x1] h:=a1_ b1c k _ h
theorem a9x (k:Nat)(x0 x1:AV)(h:Heap):evalFn tab (k+1) m3_ [x0,x1] h=runF tab k a0R [x0,x1] h:=a1_ a9Z k _ h
theorem b1X (k:Nat)(x0:AV)(h:Heap):evalFn tab (k+1) m4_ [x0] h=runF tab k a2E [x0] h:=a1_ b2C k _ h
theorem b0l (k:Nat)(x0:AV)(h:Heap):evalFn tab (k+1) o6_ [x0] h=runF tab k a1L [x0] h:=a1_ b1d k _ h
theorem b1j (k:Nat)(x0 x1:AV)(h:Heap):evalFn tab (k+1) g9_ [x0,x1] h=runF tab k a2m [x0,x1] h:=a1_ b1O k _ h
theorem a3z (k:Nat)(x0 x1 x2:AV)(h:Heap):evalFn tab (k+1) d3_ [x0,x1,x2] h=runF tab k a0V [x0,x1,x2] h:=a1_ b0a k _ h
theorem a5F (k:Nat)(x0:AV)(h:Heap):evalFn tab (k+1) c1_ [x0] h=runF tab k q9_ [x0] h:=a1_ a6q k _ h
theorem a5G (k:Nat)(x0 x1 x2:AV)(h:Heap):evalFn tab (k+1) a0_ [x0,x1,x2] h=runF tab k r0_ [x0,x1,x2] h:=a1_ a6r k _ h
theorem a4v (k:Nat)(x0 x1 x2 x3 x4 x5:AV)(h:Heap):evalFn tab (k+1) e1_ [x0,x1,x2,x3,x4,x5] h=runF tab k n7_ [x0,x1,x2,x3,x4,x5] h:=a1_ a4M k _ h
theorem a9y (k:Nat)(x0 x1 x2 x3:AV)(h:Heap):evalFn tab (k+1) m5_ [x0,x1,x2,x3] h=runF tab k a0W [x0,x1,x2,x3] h:=a1_ b0b k _ h
theorem a6x (k:Nat)(x0:AV)(h:Heap):evalFn tab (k+1) g1_ [x0] h=runF tab k u2_ [x0] h:=a1_ a6P k _ h
theorem a5H (k:Nat)(x0 x1:AV)(h:Heap):evalFn tab (k+1) f5_ [x0,x1] h=runF tab k r3_ [x0,x1] h:=a1_ a6s k _ h
theorem b0m (k:Nat)(x0:AV)(h:Heap):evalFn tab (k+1) b4_ [x0] h=runF tab k a1M [x0] h:=a1_ b1e k _ h
theorem a5I (k:Nat)(x0:AV)(h:Heap):evalFn tab (k+1) f6_ [x0] h=runF tab k r4_ [x0] h:=a1_ a6t k _ h
theorem a5J (k:Nat)(x0:AV)(h:Heap):evalFn tab (k+1) f7_ [x0] h=runF tab k r5_ [x0] h:=a1_ a6u k _ h
theorem b1k (k:Nat)(x0 x1:AV)(h:Heap):evalFn tab (k+1) s6_ [x0,x1] h=runF tab k a2n [x0,x1] h:=a1_ b1P k _ h
theorem b1l (k:Nat)(x0 x1 x2:AV)(h:Heap):evalFn tab (k+1) z5_ [x0,x1,x2] h=runF tab k a2o [x0,x1,x2] h:=a1_ b1Q k _ h
theorem b1Y (k:Nat)(x0:AV)(h:Heap):evalFn tab (k+1) a0x [x0] h=runF tab k a2F [x0] h:=a1_ b2D k _ h
theorem b1m (k:Nat)(x0 x1:AV)(h:Heap):evalFn tab (k+1) z6_ [x0,x1] h=runF tab k a2p [x0,x1] h:=a1_ b1R k _ h
theorem b1n (k:Nat)(x0 x1 x2:AV)(h:Heap):evalFn tab (k+1) s7_ [x0,x1,x2] h=runF tab k a2q [x0,x1,x2] h:=a1_ b1S k _ h
theorem b0n (k:Nat)(x0 x1:AV)(h:Heap):evalFn tab (k+1) w8_ [x0,x1] h=runF tab k a1N [x0,x1] h:=a1_ b1f k _ h
set_option maxRecDepth 100000 in
theorem methOk:MethOk Go.Proofs.Try.prog tab:=by
 have all:∀p∈methL,∀a w,(method (Go.Proofs.Try.prog.types.size+Made.depth) p.1 (.pointer (some a)) p.2.1).run Go.Proofs.Try.prog w=.ok (p.2.2,.pointer (some a)) w:=by
  intro p hp
  simp only[methL,List.mem_cons,List.not_mem_nil,or_false] at hp
  rcases hp with rfl|rfl|rfl|rfl|rfl|rfl<;>exact fun a w=>by kernel_rfl
 intro t nm f h a w
 have h2:(methL.find? fun p=>p.1 == t && p.2.1 == nm).map (·.2.2)=some f:=h
 rw[Option.map_eq_some_iff] at h2
 obtain ⟨p,h3,h4⟩:=h2
 have h5:=List.find?_some h3
 rw[Bool.and_eq_true,beq_iff_eq,beq_iff_eq] at h5
 have h6:=all p (List.mem_of_find?_eq_some h3) a w
 rw[h5.1,h5.2,h4] at h6
 exact h6
theorem valid:Valid Go.Proofs.Try.prog tab:=b7g methOk
end Go.Gm.AQ
namespace Go.Gm.AQ
open Go Go.Gm
theorem l4_ {a n:Int}(hn:0<n)(hf:Fit n)(h:Heap):Tot tab a3_ [I a,I n] h fun v h'=>v=I (a % n)∧h=h':=by
 refine WP.tot (fun k=>(a8G k _ _ h).trans (a9K tab k _ _ h)) ?_
 refine WP.oa (b3J a n (by omega)) ?_
 refine WP.oa (b1q _ _) ?_
 have hlt:=Int.tmod_lt_of_pos a hn
 have hgt:=Int.lt_tmod_of_pos a hn
 have h1:=Int.tmod_eq_emod (a:=a) (b:=n)
 have h2:=Int.emod_nonneg a (by omega:n≠0)
 have h3:=Int.emod_lt_of_pos a hn
 by_cases h0:a.tmod n<0
 ·simp only[decide_eq_true h0,cond2_true]
  refine WP.oa (b3I _ _ (by unfold Fit at *; omega)) (WP.ret ⟨?_,rfl⟩)
  congr 1
  split at h1<;>omega
 ·simp only[decide_eq_false h0,cond2_false]
  refine WP.ret ⟨?_,rfl⟩
  congr 1
  split at h1<;>omega
theorem b3y {a n:Int}(hn:0<n)(hf:Fit n)(h:Heap):Tot tab e2_ [I a,I n] h fun v h'=>v=I (a % n)∧h=h':=by
 refine WP.tot (fun k=>(a8F k _ _ h).trans (a9I tab k _ _ h)) ?_
 refine WP.oa (b3J a n (by omega)) ?_
 refine WP.oa (b1q _ _) ?_
 have hlt:=Int.tmod_lt_of_pos a hn
 have hgt:=Int.lt_tmod_of_pos a hn
 have h1:=Int.tmod_eq_emod (a:=a) (b:=n)
 have h2:=Int.emod_nonneg a (by omega:n≠0)
 have h3:=Int.emod_lt_of_pos a hn
 by_cases h0:a.tmod n<0
 ·simp only[decide_eq_true h0,cond2_true]
  refine WP.oa (b3I _ _ (by unfold Fit at *; omega)) (WP.ret ⟨?_,rfl⟩)
  congr 1
  split at h1<;>omega
 ·simp only[decide_eq_false h0,cond2_false]
  refine WP.ret ⟨?_,rfl⟩
  congr 1
  split at h1<;>omega
end Go.Gm.AQ
namespace Go.Gm.AQ
open Go Go.Gm
structure E where
 fr:Int
 to:Int
 md:Int
 co:Int
 deriving Inhabited
def encE (e:E):List AV:=[I e.fr,I e.to,I e.md,I e.co]
def encI (n:Int):List AV:=[I n]
def encB (b:Bool):List AV:=[.bool b]
def encP (p:AV × AV):List AV:=[p.1,p.2]
structure NetOk (N:Int) (es:List E):Prop where
 n0:0≤N
 n1:N≤100000
 len:es.length≤100000
 edge:∀e∈es,0≤e.fr∧e.fr<N∧0≤e.to∧e.to<N∧0≤e.md∧e.md<5
def idxTo (p:E→Bool)(es:List E)(n:Nat):List Int:=((List.range n).filter fun (i:Nat)=>p (gi es i)).map fun (i:Nat)=>(i:Int)
theorem b8f (p:E→Bool)(es:List E)(n:Nat):idxTo p es (n+1)=idxTo p es n++if p (gi es n) then [(n:Int)] else []:=by
 simp only[idxTo,List.range_succ,List.filter_append,List.map_append]
 congr 1
 by_cases h:p (gi es n)<;>simp[h]
theorem a3A (p:E→Bool)(es:List E)(n:Nat):(idxTo p es n).length≤n:=by
 simp only[idxTo,List.length_map]
 exact Nat.le_trans (List.length_filter_le ..) (by simp)
theorem a3B {p:E→Bool}{es:List E}{n:Nat}{k:Int}:k∈idxTo p es n↔0≤k∧k<n∧p (gi es k)=true:=by
 simp only[idxTo,List.mem_map,List.mem_filter,List.mem_range]
 constructor
 ·rintro ⟨a,⟨h1,h2⟩,rfl⟩
  exact ⟨by omega,by omega,h2⟩
 ·rintro ⟨h1,h2,h3⟩
  exact ⟨k.toNat,⟨by omega,by rw[show ((k.toNat:Nat):Int)=k by omega]; exact h3⟩,by omega⟩
def outL (es:List E)(v:Int):List Int:=idxTo (fun e=>e.fr == v) es es.length
def inL (es:List E)(v:Int):List Int:=idxTo (fun e=>e.to == v) es es.length
theorem b9T {N:Int}{es:List E}(ok:NetOk N es){v:Int}(hv:¬(0≤v∧v<N)):outL es v=[]:=by
 rw[List.eq_nil_iff_forall_not_mem]
 intro k hk
 rw[outL,a3B] at hk
 have:=ok.edge _ (l8_ hk.1 hk.2.1)
 have h3:=hk.2.2
 simp only[beq_iff_eq] at h3
 omega
structure AdjW (h:Heap) (a:AV) (N:Int) (es:List E) (s so si:AV) (O J:List (AV × AV)):Prop where
 pt:At h a [I N,s,so,si]
 ed:Sl h 4 s (es.map encE)
 so:Sl h 2 so (O.map encP)
 si:Sl h 2 si (J.map encP)
 lo:(O.length:Int)=N
 lj:(J.length:Int)=N
 oe:∀v,0≤v→v<N→Sl h 1 (gi O v).1 ((outL es v).map encI)
 oo:∀v,0≤v→v<N→Sl h 1 (gi O v).2 (((outL es v).map fun k=>(gi es k).to).map encI)
 ie:∀v,0≤v→v<N→Sl h 1 (gi J v).1 ((inL es v).map encI)
 io:∀v,0≤v→v<N→Sl h 1 (gi J v).2 (((inL es v).map fun k=>(gi es k).fr).map encI)
def AdjV (h:Heap)(a:AV)(N:Int)(es:List E):Prop:=∃s so si O J,AdjW h a N es s so si O J
theorem AdjW.ext {h h':Heap}{a:AV}{N:Int}{es:List E}{s so si:AV}{O J:List (AV × AV)}(w:AdjW h a N es s so si O J)(e:Ext h h'):AdjW h' a N es s so si O J:=
 ⟨w.pt.ext e,w.ed.ext e,w.so.ext e,w.si.ext e,w.lo,w.lj,fun v h0 h1=>(w.oe v h0 h1).ext e,fun v h0 h1=>(w.oo v h0 h1).ext e,fun v h0 h1=>(w.ie v h0 h1).ext e,fun v h0 h1=>(w.io v h0 h1).ext e⟩
theorem AdjV.ext {h h':Heap}{a:AV}{N:Int}{es:List E}(w:AdjV h a N es)(e:Ext h h'):AdjV h' a N es:=by
 obtain ⟨s,so,si,O,J,w⟩:=w
 exact ⟨s,so,si,O,J,w.ext e⟩
theorem b5o {h:Heap}{a s so si:AV}{N v:Int}(ha:At h a [I N,s,so,si]){O:List (AV × AV)}(hO:Sl h 2 so (O.map encP)) :
  Tot tab o4_ [a,I v] h fun r h'=>r=.bool (decide (0≤v∧v<O.length))∧h=h':=by
 refine WP.tot (fun k=>(b4Z k _ _ h).trans (b5Y tab k _ _ h)) ?_
 by_cases h0:0≤v
 ·by_cases h1:v<O.length
  ·simp -implicitDefEqProofs (disch:=first|assumption|omega|(simp only[gL]<;>omega)|((repeat (first|exact Ext.refl _|assumption|apply Ext.app|apply Ext.mk|(refine Ext.setr ?_ (by (first|omega|(simp only[gL]<;>omega))) _))); done)|(simp only[gL,gA,ha.nil,ha.fldA0,ha.ldfE,hO.lenG]<;>omega)|fail) only[gB,setAll,partL,fldV,reduceIte,Nat.reduceAdd,Nat.reduceMul,ha.nil,ha.fldA0,ha.ldfE,hO.lenG]
   exact WP.ret ⟨by simp[h0,h1],rfl⟩
  ·simp -implicitDefEqProofs (disch:=first|assumption|omega|(simp only[gL]<;>omega)|((repeat (first|exact Ext.refl _|assumption|apply Ext.app|apply Ext.mk|(refine Ext.setr ?_ (by (first|omega|(simp only[gL]<;>omega))) _))); done)|(simp only[gL,gA,ha.nil,ha.fldA0,ha.ldfE,hO.lenG]<;>omega)|fail) only[gB,setAll,partL,fldV,reduceIte,Nat.reduceAdd,Nat.reduceMul,ha.nil,ha.fldA0,ha.ldfE,hO.lenG]
   exact WP.ret ⟨by simp[h0,h1],rfl⟩
 ·simp -implicitDefEqProofs (disch:=first|assumption|omega|(simp only[gL]<;>omega)|((repeat (first|exact Ext.refl _|assumption|apply Ext.app|apply Ext.mk|(refine Ext.setr ?_ (by (first|omega|(simp only[gL]<;>omega))) _))); done)|(simp only[gL,gA]<;>omega)|fail) only[gB,setAll,partL,fldV,reduceIte,Nat.reduceAdd,Nat.reduceMul]
  exact WP.ret ⟨by simp[h0],rfl⟩
theorem b5a {h:Heap}{s:AV}{xs:List (List AV)}(hs:Sl h 1 s xs)(hl:xs.length≤10000000) :
  Tot tab i9_ [s] h fun r h'=>Ext h h'∧Gr h.length h'.length h' 1 r xs:=by
 refine WP.tot (fun k=>(b1V k _ h).trans (b2U tab k _ h)) ?_
 have hs':=hs
 rcases hs with ⟨rfl,rfl⟩|⟨o,off,lim,g,c,rfl,_⟩
 ·simp -implicitDefEqProofs (disch:=first|assumption|omega|(simp only[gL,gA]<;>omega)|fail) only[gC,reduceIte]
  exact WP.ret ⟨Ext.refl _,Gr.nil ..⟩
 ·obtain ⟨s',h',h1,h2,h3⟩:=b7C (bytes:=8) hs' (by omega) (by omega) (by omega)
  rw[b0_] at h1
  simp -implicitDefEqProofs (disch:=first|assumption|omega|(simp only[gL,gA]<;>omega)|fail) only[gC,reduceIte,h1]
  exact WP.ret ⟨h3,h2⟩
theorem b7i {h:Heap}{s:AV}{xs:List (List AV)}(hs:Sl h 4 s xs)(hl:xs.length≤10000000) :
  Tot tab k0_ [s] h fun r h'=>Ext h h'∧Gr h.length h'.length h' 4 r xs:=by
 refine WP.tot (fun k=>(a8l k _ h).trans (a9i tab k _ h)) ?_
 have hs':=hs
 rcases hs with ⟨rfl,rfl⟩|⟨o,off,lim,g,c,rfl,_⟩
 ·simp -implicitDefEqProofs (disch:=first|assumption|omega|(simp only[gL,gA]<;>omega)|fail) only[gC,reduceIte]
  exact WP.ret ⟨Ext.refl _,Gr.nil ..⟩
 ·obtain ⟨s',h',h1,h2,h3⟩:=b7C (bytes:=32) hs' (by omega) (by omega) (by omega)
  rw[b0_] at h1
  simp -implicitDefEqProofs (disch:=first|assumption|omega|(simp only[gL,gA]<;>omega)|fail) only[gC,reduceIte,h1]
  exact WP.ret ⟨h3,h2⟩
theorem b5N {h:Heap}{s1 s2:AV}{xs:List (List AV)}(hs:Sl h 1 s1 xs)(h2:s2.one=true)(hl:xs.length≤10000000) :
  Tot tab a0w [.agg [s1,s2]] h fun r h'=>Ext h h'∧Gr h.length h'.length h' 1 r xs:=by
 refine WP.tot (fun k=>(b3x k _ h).trans (b4r tab k _ h)) ?_
 have e:Ext h (mkObj h [s1,s2]):=Ext.push h _
 obtain ⟨s',h3,h4⟩:=(hs.ext e).cut
 rw[b0_] at h4 e
 simp -implicitDefEqProofs (disch:=first|assumption|omega|(simp only[gL]<;>omega)|((repeat (first|exact Ext.refl _|assumption|apply Ext.app|apply Ext.mk|(refine Ext.setr ?_ (by (first|omega|(simp only[gL]<;>omega))) _))); done)|(simp only[gL,gA,hs.one,h2,hs.len,h3]<;>omega)|fail) only[gB,setAll,partL,fldV,reduceIte,Nat.reduceAdd,Nat.reduceMul,hs.one,h2,hs.len,h3]
 refine WP.call (b5a h4 hl) ?_
 rintro r h' ⟨e1,g1⟩
 exact WP.ret ⟨e.trans e1,g1.mono (Ext.len e) (Nat.le_refl _)⟩
theorem b8N {h:Heap}{a:AV}{N v:Int}{es:List E}{s so si:AV}{O J:List (AV × AV)}(w:AdjW h a N es s so si O J){l:AV}{L:List (AV × AV)}(hl:Sl h 2 l (L.map encP))(hL:(L.length:Int)=N)(h1:∀v,0≤v→v<N→(gi L v).1.one=true∧(gi L v).2.one=true) :
  Tot tab a1o [a,l,I v] h fun r h'=>Ext h h'∧r=if 0≤v∧v<N then .agg [(gi L v).1,(gi L v).2] else .agg [.nils,.nils]:=by
 refine WP.tot (fun k=>(b3X k _ _ _ h).trans (b4X tab k _ _ _ h)) ?_
 simp -implicitDefEqProofs (disch:=first|assumption|omega|(simp only[gL]<;>omega)|((repeat (first|exact Ext.refl _|assumption|apply Ext.app|apply Ext.mk|(refine Ext.setr ?_ (by (first|omega|(simp only[gL]<;>omega))) _))); done)|(simp only[gL,gA]<;>omega)|fail) only[gB,setAll,partL,fldV,reduceIte,Nat.reduceAdd,Nat.reduceMul]
 have e:Ext h (mkObj h [.nils,.nils]):=Ext.push h _
 rw[b0_] at e
 refine WP.call (b5o (w.pt.ext e) (w.so.ext e)) ?_
 rintro _ _ ⟨rfl,rfl⟩
 have hlo:=w.lo
 by_cases hv:0≤v∧v<N
 ·rw[if_pos hv]
  obtain ⟨k1,k2⟩:=h1 v hv.1 hv.2
  simp -implicitDefEqProofs (disch:=first|assumption|omega|(simp only[gL]<;>omega)|((repeat (first|exact Ext.refl _|assumption|apply Ext.app|apply Ext.mk|(refine Ext.setr ?_ (by (first|omega|(simp only[gL]<;>omega))) _))); done)|(simp only[gL,gA,show decide (0≤v∧v<(O.length:Int))=true from decide_eq_true (by omega),hl.idxG,hl.ldN,encP,k1,k2]<;>omega)|fail) only[gB,setAll,partL,fldV,reduceIte,Nat.reduceAdd,Nat.reduceMul,show decide (0≤v∧v<(O.length:Int))=true from decide_eq_true (by omega),hl.idxG,hl.ldN,encP,k1,k2]
  exact WP.ret ⟨by ((repeat (first|exact Ext.refl _|assumption|apply Ext.app|apply Ext.mk|(refine Ext.setr ?_ (by (first|omega|(simp only[gL]<;>omega))) _)))),rfl⟩
 ·rw[if_neg hv]
  simp -implicitDefEqProofs (disch:=first|assumption|omega|(simp only[gL]<;>omega)|((repeat (first|exact Ext.refl _|assumption|apply Ext.app|apply Ext.mk|(refine Ext.setr ?_ (by (first|omega|(simp only[gL]<;>omega))) _))); done)|(simp only[gL,gA,show decide (0≤v∧v<(O.length:Int))=false from decide_eq_false (by omega)]<;>omega)|fail) only[gB,setAll,partL,fldV,reduceIte,Nat.reduceAdd,Nat.reduceMul,show decide (0≤v∧v<(O.length:Int))=false from decide_eq_false (by omega)]
  exact WP.ret ⟨by ((repeat (first|exact Ext.refl _|assumption|apply Ext.app|apply Ext.mk|(refine Ext.setr ?_ (by (first|omega|(simp only[gL]<;>omega))) _)))),rfl⟩
theorem b9U {h:Heap}{a:AV}{N v:Int}{es:List E}(ok:NetOk N es)(w:AdjV h a N es) :
  Tot tab a2t [a,I v] h fun r h'=>Ext h h'∧Gr h.length h'.length h' 1 r ((outL es v).map encI):=by
 obtain ⟨s,so,si,O,J,w⟩:=w
 refine WP.tot (fun k=>(b4v k _ _ h).trans (b5l tab k _ _ h)) ?_
 simp -implicitDefEqProofs (disch:=first|assumption|omega|(simp only[gL]<;>omega)|((repeat (first|exact Ext.refl _|assumption|apply Ext.app|apply Ext.mk|(refine Ext.setr ?_ (by (first|omega|(simp only[gL]<;>omega))) _))); done)|(simp only[gL,gA,w.pt.nil,w.pt.fldA0,w.pt.ldfE]<;>omega)|fail) only[gB,setAll,partL,fldV,reduceIte,Nat.reduceAdd,Nat.reduceMul,w.pt.nil,w.pt.fldA0,w.pt.ldfE]
 refine WP.call (b8N w w.so w.lo fun v h0 h1=>⟨(w.oe v h0 h1).one,(w.oo v h0 h1).one⟩) ?_
 rintro r h1 ⟨e1,rfl⟩
 have hl:(outL es v).length≤100000:=Nat.le_trans (a3A ..) ok.len
 by_cases hv:0≤v∧v<N
 ·rw[if_pos hv]
  refine WP.call (b5N ((w.oe v hv.1 hv.2).ext e1) (w.oo v hv.1 hv.2).one (by simp; omega)) ?_
  rintro r h' ⟨e2,g⟩
  exact WP.ret ⟨e1.trans e2,g.mono e1.len (Nat.le_refl _)⟩
 ·rw[if_neg hv,b9T ok hv]
  refine WP.call (b5N (xs:=[]) (.inl ⟨rfl,rfl⟩) rfl (by simp)) ?_
  rintro r h' ⟨e2,g⟩
  exact WP.ret ⟨e1.trans e2,g.mono e1.len (Nat.le_refl _)⟩
end Go.Gm.AQ
namespace Go.Gm.AQ
open Go Go.Gm
theorem b8O {α:Type}[Inhabited α]{xs:List α}{i j:Int}(h0:0≤i)(h1:i<xs.length)(hj:0≤j)(x:α):gi (xs.set i.toNat x) j=if j=i then x else gi xs j:=by
 simp only[gi,List.getD_eq_getElem?_getD]
 by_cases h:j=i
 ·subst h
  rw[if_pos rfl,List.getElem?_set_self (by omega)]; rfl
 ·rw[if_neg h,List.getElem?_set_ne (by omega)]
theorem b6x {κ:Type}[DecidableEq κ]{W:Nat→Prop}{h:Heap}{A:κ→Prop}{S:κ→AV}{X:κ→List (List AV)}(f:Fam W h 1 A S X){t1 t2:κ}(a1:A t1)(a2:A t2)(hne:t1≠t2){q:Nat}(hq:¬W q)(hqh:q<h.length){arr:AV}{L:List (AV × AV)}(g:Gr q (q+1) h 2 arr (L.map encP)){v:Int}(v0:0≤v)(v1:v<L.length)(e1:(gi L v).1=S t1)(e2:(gi L v).2=S t2)(edge other:Int)(l1:(X t1).length≤1000000)(l2:(X t2).length≤1000000) :
  Tot tab t3_ [elP 2 arr v,I edge,I other] h fun r h'=>∃s1 s2,Gr q (q+1) h' 2 arr ((L.set v.toNat (s1,s2)).map encP)∧
   Fam (fun o=>W o∨h.length≤o) h' 1 A (fun t=>if t=t2 then s2 else if t=t1 then s1 else S t) (fun t=>if t=t2 then X t2++[[I other]] else if t=t1 then X t1++[[I edge]] else X t)∧FrS (fun o=>o=q∨W o) h h':=by
 refine WP.tot (fun k=>(b3W k _ _ _ h).trans (b4V tab k _ _ _ h)) ?_
 have b1:Sl ((h++[AObj.cells ⟨[I edge],0,0,false⟩])++[AObj.cells ⟨[I other],0,0,false⟩]) 1 (.sl h.length 0 1 1 none 0) [[I edge]]:=((Gr.lit (h:=h) (sz:=1) (v:=[I edge]) rfl).sl).ext (by rw[b0_]; ((repeat (first|exact Ext.refl _|assumption|apply Ext.app|apply Ext.mk|(refine Ext.setr ?_ (by (first|omega|(simp only[gL]<;>omega))) _)))))
 have b2:Sl ((h++[AObj.cells ⟨[I edge],0,0,false⟩])++[AObj.cells ⟨[I other],0,0,false⟩]) 1 (.sl (h.length+1) 0 1 1 none 0) [[I other]]:=by
  have:=(Gr.lit (h:=h++[AObj.cells ⟨[I edge],0,0,false⟩]) (sz:=1) (v:=[I other]) rfl).sl
  simpa [b0_] using this
 have ex0:Ext h (h++[AObj.cells ⟨[I edge],0,0,false⟩]):=by ((repeat (first|exact Ext.refl _|assumption|apply Ext.app|apply Ext.mk|(refine Ext.setr ?_ (by (first|omega|(simp only[gL]<;>omega))) _))))
 have ex:Ext h ((h++[AObj.cells ⟨[I edge],0,0,false⟩])++[AObj.cells ⟨[I other],0,0,false⟩]):=by ((repeat (first|exact Ext.refl _|assumption|apply Ext.app|apply Ext.mk|(refine Ext.setr ?_ (by (first|omega|(simp only[gL]<;>omega))) _))))
 have hl2:((h++[AObj.cells ⟨[I edge],0,0,false⟩])++[AObj.cells ⟨[I other],0,0,false⟩]).length=h.length+2:=by simp
 obtain ⟨h2,hh⟩:∃h2,h2=((h++[AObj.cells ⟨[I edge],0,0,false⟩])++[AObj.cells ⟨[I other],0,0,false⟩]):=⟨_,rfl⟩
 rw[←hh] at b1 b2 ex hl2
 have f2:Fam (fun o=>W o∧o<h.length) h2 1 A S X:=(f.mono fun o q1 q2=>⟨q2,q1⟩).frs (D:=fun _=>False) (FrS.ofExt ex) (fun _ _ _ q=>q)
 obtain ⟨s1,h3,k1,k2,k3,k4⟩:=f2.append (bytes:=8) a1 b1 (by simp) (by omega) (by omega) (by simp; omega)
 have b2':Sl h3 1 (.sl (h.length+1) 0 1 1 none 0) [[I other]]:=by
  obtain ⟨o,off,lim,gg,c,q1,q2,q3⟩:=b2.resolve_left (by simp)
  injection q1 with p1 p2 p3 p4 p5 p6
  refine .inr ⟨o,off,lim,gg,c,by rw[←p1,←p2,←p3,←p5,←p6],?_,q3⟩
  rw[k4.get (by omega) (by omega)]
  exact q2
 obtain ⟨s2,h4,m1,m2,m3,m4⟩:=k3.append (bytes:=8) (t:=t2) a2 b2' (by simp) (by omega) (by omega) (by rw[if_neg (fun q=>hne q.symm)]; simp; omega)
 simp only[if_neg (show ¬t2=t1 from fun q=>hne q.symm)] at m1 m3
 have g3:=(g.ext ex).frs k4 (fun o q1 q2 q3=>hq (by rw[show q=o by omega]; exact q3.1))
 have g4:=g3.frs m4 (fun o q1 q2 q3=>by
  rcases q3 with q3|q3
  ·exact hq (by rw[show q=o by omega]; exact q3.1)
  ·omega)
 have c1:s1.cells=[s1]:=by
  have:=(k3.sl a1).cells
  simpa using this
 have c2:s2.cells=[s2]:=by
  have:=(m3.sl a2).cells
  simpa using this
 obtain ⟨h5,n1,n2,n3,n4⟩:=g4.write (i:=v) v0 (x:=encP (gi L v)) (by simp[x9_ v0 v1]) 0 1 (v:=s1) (by rw[c1]; rfl) (by omega) (by rw[c1]; simp[k2])
 rw[c1] at n2
 obtain ⟨h6,r1,r2,r3,r4⟩:=n2.write (i:=v) v0 (x:=setAll (encP (gi L v)) 0 [s1]) (by rw[List.getElem?_set_self (by simp; omega)]) 1 1 (v:=s2) (by rw[c2]; rfl) (by omega) (by rw[c2]; simp[m2])
 rw[c2,List.set_set] at r2
 have g3s:=g3.sl
 rw[hh] at k1
 have ldk:ld1 h3 (fldP 1 (elP 2 arr v))=some (S t2):=by
  have:=g3s.ldf 1 (i:=v) (Ext.refl _) v0 v1 (by omega)
  simpa [encP,e2] using this
 simp -implicitDefEqProofs (disch:=first|assumption|omega|exact Ext.refl _|(simp only[gL,gA]<;>omega)|fail) only[gC,reduceIte,g.sl.ldf,encP,e1,e2,k1,ldk,m1,n1,r1]
 refine WP.ret ⟨s1,s2,?_,?_,?_⟩
 ·refine r2.cong ?_
  rw[List.map_set]; rfl
 ·have f4:=(m3.frs n3.s (fun o q1 q2 q3=>?_)).frs r3.s (fun o q1 q2 q3=>?_)
  ·refine (f4.mono fun o q1 q2=>?_).congr fun t ht=>?_
   ·rcases q2 with (q2|q2)|q2
    ·exact .inl q2.1
    ·exact .inr (by omega)
    ·have:=k4.len
     exact .inr (by omega)
   ·by_cases x2:t=t2
    ·simp[x2]
    ·simp[x2]
  ·have:o=q:=by omega
   subst this
   rcases q2 with (q2|q2)|q2
   ·exact hq q2.1
   ·omega
   ·have:=k4.len; omega
  ·have:o=q:=by omega
   subst this
   rcases q2 with (q2|q2)|q2
   ·exact hq q2.1
   ·omega
   ·have:=k4.len; omega
 ·have z1:FrS (fun o=>o=q∨W o) h h2:=FrS.ofExt ex
  have z2:FrS (fun o=>o=q∨W o) h2 h3:=k4.mono fun o q1 q2=>.inr q2.1
  have z3:FrS (fun o=>o=q∨W o∨h2.length≤o) h3 h4:=m4.mono fun o q1 q2=>by
   rcases q2 with q2|q2
   ·exact .inr (.inl q2.1)
   ·exact .inr (.inr q2)
  have z4:FrS (fun o=>o=q) h4 h6:=(n3.s.mono fun o q1 q2=>by omega).trans (r3.s.mono fun o q1 q2=>by omega)
  refine ⟨by have:=z1.len; have:=z2.len; have:=z3.len; have:=z4.len; omega,fun o q1 q2=>?_⟩
  have l1:=z1.len
  have l2:=z2.len
  have l3:=z3.len
  rw[z4.get (fun q=>q1 (.inl q)) (by omega),z3.get (fun q=>?_) (by omega),z2.get q1 (by omega),z1.get q1 q2]
  rcases q with q|q|q
  ·exact q1 (.inl q)
  ·exact q1 (.inr q)
  ·omega
def Sf (O J:List (AV × AV))(t:Nat × Nat):AV:=match t with
 |(0,v)=>(gi O v).1
 |(1,v)=>(gi O v).2
 |(2,v)=>(gi J v).1
 |(_,v)=>(gi J v).2
def Xf (es:List E)(n:Nat)(t:Nat × Nat):List Int:=match t with
 |(0,v)=>idxTo (fun e=>e.fr == (v:Int)) es n
 |(1,v)=>(idxTo (fun e=>e.fr == (v:Int)) es n).map fun k=>(gi es k).to
 |(2,v)=>idxTo (fun e=>e.to == (v:Int)) es n
 |(_,v)=>(idxTo (fun e=>e.to == (v:Int)) es n).map fun k=>(gi es k).fr
theorem b5b (es:List E)(n:Nat)(t:Nat × Nat):(Xf es n t).length≤n:=by
 obtain ⟨j,v⟩:=t
 match j with
 |0=>simp only[Xf]; exact a3A ..
 |1=>simp only[Xf,List.length_map]; exact a3A ..
 |2=>simp only[Xf]; exact a3A ..
 |j+3=>simp only[Xf,List.length_map]; exact a3A ..
structure NewI (hb:Heap) (N:Nat) (es:List E) (q1 q2:Nat) (so si:AV) (n:Nat) (h:Heap) (O J:List (AV × AV)):Prop where
 fr:FrS (fun o=>o=q1∨o=q2∨hb.length≤o) hb h
 go:Gr q1 (q1+1) h 2 so (O.map encP)
 gj:Gr q2 (q2+1) h 2 si (J.map encP)
 lo:O.length=N
 lj:J.length=N
 fam:Fam (fun o=>hb.length≤o) h 1 (fun t:Nat × Nat=>t.1<4∧t.2<N) (Sf O J) fun t=>(Xf es n t).map encI
theorem b9V {hb:Heap}{N:Nat}{es:List E}{q1 q2 qa:Nat}{s s' so si:AV}(ok:NetOk N es)(hq1:q1<hb.length)(hq2:q2<hb.length)(hqa:qa<hb.length)(hne:q1≠q2)(hna1:qa≠q1)(hna2:qa≠q2)(ha:hb[qa]?=some (.cells ⟨[I N,s',so,si],0,0,false⟩)){Q:AV→Heap→Prop}(hs:∀h,FrS (fun o=>o=q1∨o=q2∨hb.length≤o) hb h→Sl h 4 s (es.map encE))(hQ:∀h O J,NewI hb N es q1 q2 so si es.length h O J→Q (.ptr qa 0 4 0) h) :
  ∀(d n:Nat) (h:Heap) (O J:List (AV × AV)),n+d=es.length→NewI hb N es q1 q2 so si n h O J→
   WP (fun p:Nat × Nat=>a5R tab p.1 p.2 (.ptr qa 0 4 0) s (I es.length) (I n) h) Q:=by
 intro d
 induction d with
 |zero=>
  intro n h O J h1 w
  refine WP.rnd (fun i' j=>b2O tab i' j (.ptr qa 0 4 0) s (I es.length) (I n) h) ?_
  simp -implicitDefEqProofs (disch:=first|assumption|omega|(simp only[gL,gA]<;>omega)|fail) only[gC,reduceIte]
  refine WP.ret (hQ h O J ?_)
  rw[←show n=es.length by omega]; exact w
 |succ d ih=>
  intro n h O J h1 w
  have hln:=ok.len
  refine WP.rnd (fun i' j=>b2O tab i' j (.ptr qa 0 4 0) s (I es.length) (I n) h) ?_
  obtain ⟨e,he⟩:∃e,gi es n=e:=⟨_,rfl⟩
  have hed:=ok.edge _ (l8_ (xs:=es) (i:=(n:Int)) (by omega) (by omega))
  rw[he] at hed
  have hsl:=hs h w.fr
  have hwl:=w.fr.len
  obtain ⟨h6,hh6⟩:∃h6,h6=(h++[AObj.cells ⟨[I 0,I 0,I 0,I 0],0,0,false⟩]).set h.length (.cells ⟨encE e,0,0,false⟩):=⟨_,rfl⟩
  have ex:Ext h h6:=by rw[hh6]; ((repeat (first|exact Ext.refl _|assumption|apply Ext.app|apply Ext.mk|(refine Ext.setr ?_ (by (first|omega|(simp only[gL]<;>omega))) _))))
  have hr6:h6[h.length]?=some (.cells ⟨encE e,0,0,false⟩):=by rw[hh6]; simp
  have hl6:h6.length=h.length+1:=by rw[hh6]; simp
  have hp6:At h6 (.ptr qa 0 4 0) [I N,s',so,si]:=by
   exact At.row (ex.get (by rw[w.fr.get (by omega) hqa]; exact ha)) (Nat.le_refl _) rfl
  have he6:At h6 (.ptr h.length 0 4 0) (encE e):=At.row hr6 (Nat.le_refl _) rfl
  have so6:=w.go.ext ex
  have sj6:=w.gj.ext ex
  have f6:Fam (fun o=>hb.length≤o∧o<h.length) h6 1 (fun t:Nat × Nat=>t.1<4∧t.2<N) (Sf O J) fun t=>(Xf es n t).map encI:=
   (w.fam.mono fun o q1 q2=>⟨q2,q1⟩).frs (D:=fun _=>False) (FrS.ofExt ex) (fun _ _ _ q=>q)
  have hlo:=w.lo
  have hlj:=w.lj
  have hx0:=b5b es n (0,e.fr.toNat)
  have hx1:=b5b es n (1,e.fr.toNat)
  have hx2:=b5b es n (2,e.to.toNat)
  have hx3:=b5b es n (3,e.to.toNat)
  have hfn:((e.fr.toNat:Nat):Int)=e.fr:=by omega
  have htn:((e.to.toNat:Nat):Int)=e.to:=by omega
  simp -implicitDefEqProofs (disch:=first|assumption|omega|exact Ext.refl _|(simp only[gL,gA]<;>omega)|fail) only[gC,reduceIte,hsl.idxG,hsl.ldN,he,encE]
  simp only[encE] at hh6
  rw[←hh6]
  refine WP.call (b5o hp6 so6.sl) ?_
  rintro _ h7 ⟨rfl,e7⟩
  obtain rfl:=e7
  simp only[encE] at hr6
  have hra:h6[qa]?=some (.cells ⟨[I N,s',so,si],0,0,false⟩):=ex.get (by rw[w.fr.get (by omega) hqa]; exact ha)
  simp -implicitDefEqProofs (disch:=first|assumption|omega|(simp only[gL,gA]<;>omega)|fail) only[gC,reduceIte,show decide (0≤e.fr∧e.fr<(O.length:Int))=true from decide_eq_true (by omega),hr6,hra]
  refine WP.call (b5o hp6 so6.sl) ?_
  rintro _ h7 ⟨rfl,e7⟩
  obtain rfl:=e7
  simp -implicitDefEqProofs (disch:=first|assumption|omega|(simp only[gL,gA]<;>omega)|fail) only[gC,reduceIte,show decide (0≤e.to∧e.to<(O.length:Int))=true from decide_eq_true (by omega),hr6,hra,so6.sl.idxG]
  refine WP.call (b6x f6 (t1:=(0,e.fr.toNat)) (t2:=(1,e.fr.toNat)) ⟨by simp,by simp; omega⟩ ⟨by simp,by simp; omega⟩ (by simp) (by omega) (by omega) so6 hed.1 (by omega) (by simp only[Sf,hfn]) (by simp only[Sf,hfn]) n e.to (by simp; omega) (by simp; omega)) ?_
  rintro r8 h8 ⟨s1,s2,so8,f8,fr8⟩
  have hl8:=fr8.len
  have hr8:h8[h.length]?=some (.cells ⟨[I e.fr,I e.to,I e.md,I e.co],0,0,false⟩):=by rw[fr8.get (by omega) (by omega)]; exact hr6
  have hra8:h8[qa]?=some (.cells ⟨[I N,s',so,si],0,0,false⟩):=by rw[fr8.get (by omega) (by omega)]; exact hra
  have sj8:=sj6.frs fr8 (fun o q1 q2=>by omega)
  simp -implicitDefEqProofs (disch:=first|assumption|omega|(simp only[gL,gA]<;>omega)|fail) only[gC,reduceIte,hr8,hra8,sj8.sl.idxG]
  refine WP.call (b6x f8 (t1:=(2,e.to.toNat)) (t2:=(3,e.to.toNat)) ⟨by simp,by simp; omega⟩ ⟨by simp,by simp; omega⟩ (by simp) (by omega) (by omega) sj8 hed.2.2.1 (by omega) (by simp[Sf,htn]) (by simp[Sf,htn]) n e.fr (by simp; omega) (by simp; omega)) ?_
  rintro r9 h9 ⟨s3,s4,sj9,f9,fr9⟩
  have hl9:=fr9.len
  have so9:=so8.frs fr9 (fun o q1 q2=>by omega)
  refine ih (n+1) h9 _ _ (by omega) ⟨?_,so9,sj9,by simp; exact hlo,by simp; exact hlj,?_⟩
  ·have z1:=(w.fr.trans (FrS.ofExt ex)).trans (fr8.mono fun o q1 q2=>by omega)
   exact z1.trans (fr9.mono fun o q1 q2=>by omega)
  ·refine (f9.mono fun o q1 q2=>by omega).congr fun t ht=>?_
   have hgo:∀v:Nat,v<N→gi (O.set e.fr.toNat (s1,s2)) (v:Int)=if (v:Int)=e.fr then (s1,s2) else gi O v:=fun v hv=>b8O hed.1 (by omega) (by omega) _
   have hgj:∀v:Nat,v<N→gi (J.set e.to.toNat (s3,s4)) (v:Int)=if (v:Int)=e.to then (s3,s4) else gi J v:=fun v hv=>b8O hed.2.2.1 (by omega) (by omega) _
   obtain ⟨j,v⟩:=t
   obtain ⟨hj,hv⟩:=ht
   simp only at hj hv
   have efr:((v:Int)=e.fr)↔v=e.fr.toNat:=by omega
   have eto:((v:Int)=e.to)↔v=e.to.toNat:=by omega
   have hxs:=fun p=>b8f p es n
   match j,hj with
   |0,_=>
    simp only[Sf,Xf,hgo v hv,efr,hxs,he,Prod.mk.injEq]
    by_cases hvf:v=e.fr.toNat
    ·subst hvf; simp[encI,hfn,Sf,Xf]
    ·have:¬e.fr=(v:Int):=fun q=>hvf (efr.1 q.symm)
     simp[hvf,this,Sf,Xf]
   |1,_=>
    simp only[Sf,Xf,hgo v hv,efr,hxs,he,Prod.mk.injEq]
    by_cases hvf:v=e.fr.toNat
    ·subst hvf; simp[encI,hfn,Sf,Xf,he]
    ·have:¬e.fr=(v:Int):=fun q=>hvf (efr.1 q.symm)
     simp[hvf,this,Sf,Xf]
   |2,_=>
    simp only[Sf,Xf,hgj v hv,eto,hxs,he,Prod.mk.injEq]
    by_cases hvf:v=e.to.toNat
    ·subst hvf; simp[encI,htn,Sf,Xf]
    ·have:¬e.to=(v:Int):=fun q=>hvf (eto.1 q.symm)
     simp[hvf,this,Sf,Xf]
   |3,_=>
    simp only[Sf,Xf,hgj v hv,eto,hxs,he,Prod.mk.injEq]
    by_cases hvf:v=e.to.toNat
    ·subst hvf; simp[encI,htn,Sf,Xf,he]
    ·have:¬e.to=(v:Int):=fun q=>hvf (eto.1 q.symm)
     simp[hvf,this,Sf,Xf]
theorem b8P {h:Heap}{N:Nat}{s:AV}{es:List E}(ok:NetOk N es)(hs:Sl h 4 s (es.map encE)) :
  Tot tab a7v [.agg [I N,s]] h fun r h'=>Ext h h'∧(∀H,(∀o,h.length≤o→o<h'.length→H[o]?=h'[o]?)→AdjV H r N es)∧∃o,h.length≤o∧r=.ptr o 0 4 0:=by
 have hnb:=ok.n1
 have hln:=ok.len
 refine WP.tot (fun k=>(b6w k _ h).trans (b8e tab k _ h)) ?_
 have e1:Ext h (h++[AObj.cells ⟨[I N,s],0,0,false⟩]):=by ((repeat (first|exact Ext.refl _|assumption|apply Ext.app|apply Ext.mk|(refine Ext.setr ?_ (by (first|omega|(simp only[gL]<;>omega))) _))))
 obtain ⟨h1,hh1⟩:∃h1,h1=h++[AObj.cells ⟨[I N,s],0,0,false⟩]:=⟨_,rfl⟩
 rw[←hh1] at e1
 have hr1:h1[h.length]?=some (.cells ⟨[I N,s],0,0,false⟩):=by rw[hh1]; simp
 have hl1:h1.length=h.length+1:=by rw[hh1]; simp
 have hmx:max (N:Int) 0=N:=by omega
 obtain ⟨so,h2,k1,k2,k3,k4,k5⟩:=t0_ (zero:=[AV.nils,.nils]) (sz:=2) (bytes:=48) (n:=(N:Int)) h1 (by omega) (by omega) (by omega) rfl rfl
 obtain ⟨si,h3,m1,m2,m3,m4,m5⟩:=t0_ (zero:=[AV.nils,.nils]) (sz:=2) (bytes:=48) (n:=(N:Int)) h2 (by omega) (by omega) (by omega) rfl rfl
 have hr2:=k3.get hr1
 have hr3:=m3.get hr2
 have e4:Ext h3 (h3++[AObj.cells ⟨[I 0,.nils,so,si],0,0,false⟩]):=by ((repeat (first|exact Ext.refl _|assumption|apply Ext.app|apply Ext.mk|(refine Ext.setr ?_ (by (first|omega|(simp only[gL]<;>omega))) _))))
 obtain ⟨h4,hh4⟩:∃h4,h4=h3++[AObj.cells ⟨[I 0,.nils,so,si],0,0,false⟩]:=⟨_,rfl⟩
 rw[←hh4] at e4
 have hr4:=e4.get hr3
 have hl4:h4.length=h3.length+1:=by rw[hh4]; simp
 have hra:h4[h3.length]?=some (.cells ⟨[I 0,.nils,so,si],0,0,false⟩):=by rw[hh4]; simp
 simp -implicitDefEqProofs (disch:=first|assumption|omega|(simp only[gL]<;>omega)|((repeat (first|exact Ext.refl _|assumption|apply Ext.app|apply Ext.mk|(refine Ext.setr ?_ (by (first|omega|(simp only[gL]<;>omega))) _))); done)|(simp only[gL,gA,hs.one,hs.cells]<;>omega)|fail) only[gB,setAll,partL,fldV,reduceIte,Nat.reduceAdd,Nat.reduceMul,hs.one,hs.cells]
 rw[←hh1]
 simp -implicitDefEqProofs (disch:=first|assumption|omega|(simp only[gL]<;>omega)|((repeat (first|exact Ext.refl _|assumption|apply Ext.app|apply Ext.mk|(refine Ext.setr ?_ (by (first|omega|(simp only[gL]<;>omega))) _))); done)|(simp only[gL,gA,hr1,hmx,k1,hr2,m1,hr3,k2.sl.one,k2.sl.cells,m2.sl.one,m2.sl.cells]<;>omega)|fail) only[gB,setAll,partL,fldV,reduceIte,Nat.reduceAdd,Nat.reduceMul,hr1,hmx,k1,hr2,m1,hr3,k2.sl.one,k2.sl.cells,m2.sl.one,m2.sl.cells]
 rw[show AV.int .i64 0=I 0 from rfl,←hh4]
 refine WP.call (b7i (hs.ext ((e1.trans k3).trans (m3.trans e4))) (by simp; omega)) ?_
 rintro s' h5 ⟨e5,g5⟩
 have hr5:=e5.get hr4
 have hra5:=e5.get hra
 have hl5:=e5.len
 obtain ⟨h6,hh6⟩:∃h6,h6=h5.set h3.length (.cells ⟨[I N,s',so,si],0,0,false⟩):=⟨_,rfl⟩
 have hl6:h6.length=h5.length:=by rw[hh6]; simp
 have f6:FrS (fun o=>o=h3.length) h5 h6:=by rw[hh6]; exact ⟨by simp,fun o q1 q2=>List.getElem?_set_ne (fun q=>q1 q.symm)⟩
 have e6:Ext h h6:=f6.ext (((e1.trans k3).trans (m3.trans e4)).trans e5) (fun o q1 q2=>by omega)
 have e25:Ext h2 h5:=(m3.trans e4).trans e5
 have e35:Ext h3 h5:=e4.trans e5
 have hr6:h6[h.length]?=some (.cells ⟨[I N,s],0,0,false⟩):=by rw[f6.get (by omega) (by omega)]; exact hr5
 have hra6:h6[h3.length]?=some (.cells ⟨[I N,s',so,si],0,0,false⟩):=by rw[hh6]; exact b2_ (by omega)
 have hgg:Gr h4.length h6.length h6 4 s' (es.map encE):=(g5.frs f6 (fun o q1 q2=>by omega)).mono (Nat.le_refl _) (by omega)
 have go6:Gr h1.length (h1.length+1) h6 2 so (List.replicate N [AV.nils,.nils]):=(k2.ext e25).frs f6 (fun o q1 q2=>by omega)
 have gi6:Gr h2.length (h2.length+1) h6 2 si (List.replicate N [AV.nils,.nils]):=(m2.ext e35).frs f6 (fun o q1 q2=>by omega)
 have hrep:List.replicate N [AV.nils,.nils]=(List.replicate N (AV.nils,AV.nils)).map encP:=by rw[List.map_replicate]; rfl
 rw[hrep] at go6 gi6
 simp only[I] at hr5 hra5 hr6 hh6
 simp -implicitDefEqProofs (disch:=first|assumption|omega|(simp only[gL]<;>omega)|((repeat (first|exact Ext.refl _|assumption|apply Ext.app|apply Ext.mk|(refine Ext.setr ?_ (by (first|omega|(simp only[gL]<;>omega))) _))); done)|(simp only[gL,gA,hr5,hra5,g5.sl.one,g5.sl.cells]<;>omega)|fail) only[gB,setAll,partL,fldV,reduceIte,Nat.reduceAdd,Nat.reduceMul,hr5,hra5,g5.sl.one,g5.sl.cells]
 rw[←hh6]
 simp -implicitDefEqProofs (disch:=first|assumption|omega|(simp only[gL]<;>omega)|((repeat (first|exact Ext.refl _|assumption|apply Ext.app|apply Ext.mk|(refine Ext.setr ?_ (by (first|omega|(simp only[gL]<;>omega))) _))); done)|(simp only[gL,gA,hr6,hs.lenG]<;>omega)|fail) only[gB,setAll,partL,fldV,reduceIte,Nat.reduceAdd,Nat.reduceMul,hr6,hs.lenG]
 have hgi:∀v,0≤v→v<(N:Int)→gi (List.replicate N (AV.nils,AV.nils)) v=(AV.nils,AV.nils):=fun v v0 v1=>by
  have:v.toNat<N:=by omega
  simp[gi,List.getD_eq_getElem?_getD,List.getElem?_replicate,this]
 refine WP.ent (b9V (q1:=h1.length) (q2:=h2.length) (qa:=h3.length) (hb:=h6) (s':=s') (so:=so) (si:=si) ok (by omega) (by omega) (by omega) (by omega) (by omega) (by omega) hra6 (fun H f=>hs.ext (f.ext e6 (fun o q1 q2=>by omega))) ?_ es.length 0 h6 _ _ (by omega)
  ⟨FrS.refl _ _,go6,gi6,by simp,by simp,Fam.nil _ _ _ fun t ht=>?_⟩) fun i=>rfl
 ·intro H O J w
  refine ⟨w.fr.ext e6 (fun o q1 q2=>by omega),fun H2 hag=>⟨s',so,si,O,J,?_,?_,(w.go.agree fun o q1 q2 q3=>hag o (by omega) q3).sl,(w.gj.agree fun o q1 q2 q3=>hag o (by omega) q3).sl,by have:=w.lo; omega,by have:=w.lj; omega,?_,?_,?_,?_⟩,⟨h3.length,by omega,rfl⟩⟩
  ·exact At.row (by rw[hag _ (by omega) (by have:=w.fr.len; omega),w.fr.get (by omega) (by omega)]; exact hra6) (Nat.le_refl _) rfl
  ·exact ((hgg.frs w.fr (fun o q1 q2=>by omega)).agree fun o q1 q2 q3=>hag o (by omega) q3).sl
  ·intro v v0 v1
   have:=w.fam.slA (t:=(0,v.toNat)) ⟨by simp,by simp; omega⟩ (fun o q1 q2=>hag o (by omega) q2)
   simpa only[Sf,Xf,outL,inL,show ((v.toNat:Nat):Int)=v by omega] using this
  ·intro v v0 v1
   have:=w.fam.slA (t:=(1,v.toNat)) ⟨by simp,by simp; omega⟩ (fun o q1 q2=>hag o (by omega) q2)
   simpa only[Sf,Xf,outL,inL,show ((v.toNat:Nat):Int)=v by omega] using this
  ·intro v v0 v1
   have:=w.fam.slA (t:=(2,v.toNat)) ⟨by simp,by simp; omega⟩ (fun o q1 q2=>hag o (by omega) q2)
   simpa only[Sf,Xf,outL,inL,show ((v.toNat:Nat):Int)=v by omega] using this
  ·intro v v0 v1
   have:=w.fam.slA (t:=(3,v.toNat)) ⟨by simp,by simp; omega⟩ (fun o q1 q2=>hag o (by omega) q2)
   simpa only[Sf,Xf,outL,inL,show ((v.toNat:Nat):Int)=v by omega] using this
 ·obtain ⟨j,v⟩:=t
  obtain ⟨hj,hv⟩:=ht
  simp only at hj hv
  have hg:=hgi v (by omega) (by omega)
  match j,hj with
  |0,_=>simp[Sf,Xf,hg,idxTo]
  |1,_=>simp[Sf,Xf,hg,idxTo]
  |2,_=>simp[Sf,Xf,hg,idxTo]
  |3,_=>simp[Sf,Xf,hg,idxTo]
end Go.Gm.AQ
namespace Go.Gm.AQ
open Go Go.Gm
def mkN (size:Int):Int:=1+size % 12
def mkEdge (N modes k:Int):E:=
 let fr:=k % N
 let to:=IntKind.i64.wrap (k.tdiv 13) % N
 let md:=IntKind.i64.wrap (k.tdiv 170) % 5
 ⟨fr,to,if modes % 3=0 then (fr+to) % 2 else if modes % 3=1 then IntKind.i64.wrap (md*fr) % 3 else md,
  if k % 31=0 then 2147483647-IntKind.i64.wrap (k.tdiv 31) % 3 else IntKind.i64.wrap (k.tdiv 900) % 9⟩
def mkE (size:Int)(zs:List Int)(modes:Int):List E:=(zs.take 40).map (mkEdge (mkN size) modes)
theorem b0B (size:Int):1≤mkN size∧mkN size≤12:=by unfold mkN; omega
theorem c2e (size:Int)(zs:List Int)(modes:Int):NetOk (mkN size) (mkE size zs modes):=by
 have hN:=b0B size
 refine ⟨by omega,by omega,by simp[mkE]; omega,?_⟩
 intro e he
 simp only[mkE,List.mem_map] at he
 obtain ⟨k,_,rfl⟩:=he
 simp only[mkEdge]
 have h1:=Int.emod_nonneg k (show mkN size≠0 by omega)
 have h2:=Int.emod_lt_of_pos k (show 0<mkN size by omega)
 have h3:=Int.emod_nonneg (IntKind.i64.wrap (k.tdiv 13)) (show mkN size≠0 by omega)
 have h4:=Int.emod_lt_of_pos (IntKind.i64.wrap (k.tdiv 13)) (show 0<mkN size by omega)
 refine ⟨h1,h2,h3,h4,?_⟩
 split
 ·omega
 ·split<;>omega
structure MkI (h0:Heap) (N:Int) (xs:List E) (h:Heap) (s:AV) (hi:Nat):Prop where
 ext:Ext h0 h
 r6:h[h0.length]?=some (.cells ⟨[I 0,.nils],0,0,false⟩)
 r7:h[h0.length+1]?=some (.cells ⟨[I N,s],0,0,false⟩)
 gr:Gr (h0.length+2) hi h 4 s (xs.map encE)
 hin:hi≤h.length
 lon:h0.length+2≤hi
theorem b7E {h0:Heap}{N modes:Int}{ns:AV}{xs:List E}{n:Nat}{Q:AV→Heap→Prop}(hx:xs.length≤1000)(hn:n≤1000){e:E}(ih:∀h s,MkI h0 N (xs++[e]) h s h.length→WP (fun p:Nat × Nat=>h7_ tab p.1 p.2 ns (I modes) (.ptr h0.length 0 2 0) (.ptr (h0.length+1) 0 2 0) (I (n+1)) h) Q){h:Heap}{s:AV}{oe:Nat}(w:MkI h0 N xs h s oe)(he:h[oe]?=some (.cells ⟨encE e,0,0,false⟩)) :
  WP (fun p:Nat × Nat=>v5_ tab p.1 p.2 ns (I modes) (.ptr h0.length 0 2 0) (.ptr (h0.length+1) 0 2 0) (I n) (.ptr oe 0 4 0) h) Q:=by
 refine WP.congr (fun p=>a8T tab p.1 p.2 ns (I modes) (.ptr h0.length 0 2 0) (.ptr (h0.length+1) 0 2 0) (I n) (.ptr oe 0 4 0) h) ?_
 have hlo:=w.lon
 have hhi:=w.hin
 have hoe:oe<h.length:=(List.getElem?_eq_some_iff.1 he).1
 obtain ⟨s',h',k1,k2,k3⟩:=w.gr.append1 (bytes:=32) (v:=encE e) rfl (by omega) (by omega) (by simp; omega) (by omega) (by omega)
 have r6':h'[h0.length]?=some (.cells ⟨[I 0,.nils],0,0,false⟩):=by rw[k3.get (by omega) (by omega)]; exact w.r6
 have r7':h'[h0.length+1]?=some (.cells ⟨[I N,s],0,0,false⟩):=by rw[k3.get (by omega) (by omega)]; exact w.r7
 have hl':=k3.len
 have w7:=w.r7
 rw[b0_] at k1
 simp only[encE] at he k1
 simp -implicitDefEqProofs (disch:=first|assumption|omega|(simp only[gL]<;>omega)|((repeat (first|exact Ext.refl _|assumption|apply Ext.app|apply Ext.mk|(refine Ext.setr ?_ (by (first|omega|(simp only[gL]<;>omega))) _))); done)|(simp only[gL,gA,w7,he,k1,r7',k2.sl.one,k2.sl.cells]<;>omega)|fail) only[gB,setAll,partL,fldV,reduceIte,Nat.reduceAdd,Nat.reduceMul,w7,he,k1,r7',k2.sl.one,k2.sl.cells]
 refine ih _ s' ⟨?_,?_,?_,?_,by simp,by simp; omega⟩
 ·have:=k3.ext w.ext (by omega)
  ((repeat (first|exact Ext.refl _|assumption|apply Ext.app|apply Ext.mk|(refine Ext.setr ?_ (by (first|omega|(simp only[gL]<;>omega))) _))))
 ·rw[b6_ (by omega)]; exact r6'
 ·rw[b2_ (by omega)]
 ·refine ((k2.set (by omega) _).mono (Nat.le_refl _) (by simp)).cong ?_
  simp[encE]
theorem c0T {h0:Heap}{N modes k:Int}{ns:AV}{xs:List E}{n:Nat}{Q:AV→Heap→Prop}(hx:xs.length≤1000)(hn:n≤1000){e:E}(ih:∀h s,MkI h0 N (xs++[{ e with co:=if k % 31=0 then 2147483647-IntKind.i64.wrap (k.tdiv 31) % 3 else e.co }]) h s h.length→WP (fun p:Nat × Nat=>h7_ tab p.1 p.2 ns (I modes) (.ptr h0.length 0 2 0) (.ptr (h0.length+1) 0 2 0) (I (n+1)) h) Q){h:Heap}{s:AV}{oe:Nat}(w:MkI h0 N xs h s oe)(he:h[oe]?=some (.cells ⟨encE e,0,0,false⟩)) :
  WP (fun p:Nat × Nat=>h8_ tab p.1 p.2 ns (I modes) (.ptr h0.length 0 2 0) (.ptr (h0.length+1) 0 2 0) (I n) (I k) (.ptr oe 0 4 0) h) Q:=by
 refine WP.congr (fun p=>a8U tab p.1 p.2 ns (I modes) (.ptr h0.length 0 2 0) (.ptr (h0.length+1) 0 2 0) (I n) (I k) (.ptr oe 0 4 0) h) ?_
 have hlo:=w.lon
 have hhi:=w.hin
 have hoe:oe<h.length:=(List.getElem?_eq_some_iff.1 he).1
 refine WP.call (l4_ (by omega) (by unfold Fit; omega) h) ?_
 rintro _ h1 ⟨rfl,e1⟩
 obtain rfl:=e1
 by_cases h31:k % 31=0
 ·simp -implicitDefEqProofs (disch:=first|assumption|omega|(simp only[gL,gA]<;>omega)|fail) only[gC,reduceIte]
  refine WP.call (l4_ (by omega) (by unfold Fit; omega) h) ?_
  rintro _ h1 ⟨rfl,e1⟩
  obtain rfl:=e1
  simp only[encE] at he
  simp -implicitDefEqProofs (disch:=first|assumption|omega|(simp only[gL,gA]<;>omega)|fail) only[gC,reduceIte,he]
  refine b7E hx hn ih (s:=s) ⟨?_,?_,?_,w.gr.set (by omega) _,by simp; omega,hlo⟩ ?_
  ·have:=w.ext
   ((repeat (first|exact Ext.refl _|assumption|apply Ext.app|apply Ext.mk|(refine Ext.setr ?_ (by (first|omega|(simp only[gL]<;>omega))) _))))
  ·rw[b6_ (by omega)]; exact w.r6
  ·rw[b6_ (by omega)]; exact w.r7
  ·rw[b2_ (by omega)]; simp[encE,h31]
 ·simp -implicitDefEqProofs (disch:=first|assumption|omega|(simp only[gL,gA]<;>omega)|fail) only[gC,reduceIte]
  refine b7E hx hn ih (s:=s) w ?_
  rw[he]; simp[encE,h31]
theorem c0U {h0:Heap}{size modes:Int}{ns:AV}{zs:List Int}(hns:Sl h0 1 ns (zs.map encI)){Q:AV→Heap→Prop}(hQ:∀h s,MkI h0 (mkN size) (mkE size zs modes) h s h.length→∀h',Ext h0 h'→(Gr (h0.length+2) h.length h' 4 s ((mkE size zs modes).map encE))→Q (.agg [I (mkN size),s]) h') :
  ∀(d n:Nat) (h:Heap) (s:AV),n+d=(zs.take 40).length→MkI h0 (mkN size) ((zs.take n).map (mkEdge (mkN size) modes)) h s h.length→
   WP (fun p:Nat × Nat=>h7_ tab p.1 p.2 ns (I modes) (.ptr h0.length 0 2 0) (.ptr (h0.length+1) 0 2 0) (I n) h) Q:=by
 have hN:=b0B size
 intro d
 induction d with
 |zero=>
  intro n h s h1 w
  refine WP.rnd (fun i' j=>a3i tab i' j ns (I modes) (.ptr h0.length 0 2 0) (.ptr (h0.length+1) 0 2 0) (I n) h) ?_
  have hl0:=w.ext.len
  have hlo:=w.lon
  have r6:=w.r6
  have r7:=w.r7
  have hz:zs.take n=zs.take 40:=by
   rw[List.length_take] at h1
   by_cases hz:zs.length≤40
   ·rw[List.take_of_length_le (by omega),List.take_of_length_le (by omega)]
   ·rw[show n=40 by omega]
  have hfin:WP (fun p:Nat × Nat=>some (AV.agg [I (mkN size),s],h.set h0.length (.cells ⟨[I (mkN size),s],0,0,false⟩))) Q:=by
   have w':MkI h0 (mkN size) (mkE size zs modes) h s h.length:=by
    have:=w
    rw[hz] at this; exact this
   refine WP.ret (hQ h s w' _ (w.ext.setr (by omega) _) (w'.gr.set (by omega) _))
  rw[List.length_take] at h1
  by_cases hn:n<zs.length
  ·simp -implicitDefEqProofs (disch:=first|assumption|omega|(simp only[gL]<;>omega)|((repeat (first|exact Ext.refl _|assumption|apply Ext.app|apply Ext.mk|(refine Ext.setr ?_ (by (first|omega|(simp only[gL]<;>omega))) _))); done)|(simp only[gL,gA,hns.lenG,r7,r6,w.gr.sl.one]<;>omega)|fail) only[gB,setAll,partL,fldV,reduceIte,Nat.reduceAdd,Nat.reduceMul,hns.lenG,r7,r6,w.gr.sl.one]
   exact hfin
  ·simp -implicitDefEqProofs (disch:=first|assumption|omega|(simp only[gL]<;>omega)|((repeat (first|exact Ext.refl _|assumption|apply Ext.app|apply Ext.mk|(refine Ext.setr ?_ (by (first|omega|(simp only[gL]<;>omega))) _))); done)|(simp only[gL,gA,hns.lenG,r7,r6,w.gr.sl.one]<;>omega)|fail) only[gB,setAll,partL,fldV,reduceIte,Nat.reduceAdd,Nat.reduceMul,hns.lenG,r7,r6,w.gr.sl.one]
   exact hfin
 |succ d ih=>
  intro n h s h1 w
  rw[List.length_take] at h1
  refine WP.rnd (fun i' j=>a3i tab i' j ns (I modes) (.ptr h0.length 0 2 0) (.ptr (h0.length+1) 0 2 0) (I n) h) ?_
  obtain ⟨k,hk⟩:∃k,gi zs n=k:=⟨_,rfl⟩
  have hl0:=w.ext.len
  have hlo:=w.lon
  have r6:=w.r6
  have r7:=w.r7
  have ex:=w.ext
  have htk:zs.take (n+1)=zs.take n++[k]:=by
   rw[List.take_add_one,show zs[n]?=some k by
    have:=x9_ (xs:=zs) (i:=(n:Int)) (by omega) (by omega)
    rw[hk] at this; simpa using this]
   rfl
  simp -implicitDefEqProofs (disch:=first|assumption|omega|(simp only[gL]<;>omega)|((repeat (first|exact Ext.refl _|assumption|apply Ext.app|apply Ext.mk|(refine Ext.setr ?_ (by (first|omega|(simp only[gL]<;>omega))) _))); done)|(simp only[gL,gA,hns.lenG,hns.idxG,hns.ld0,hk,encI,r7]<;>omega)|fail) only[gB,setAll,partL,fldV,reduceIte,Nat.reduceAdd,Nat.reduceMul,hns.lenG,hns.idxG,hns.ld0,hk,encI,r7]
  refine WP.call (l4_ (by omega) (by unfold Fit; omega) _) ?_
  rintro _ _ ⟨rfl,rfl⟩
  simp -implicitDefEqProofs (disch:=first|assumption|omega|(simp only[gL]<;>omega)|((repeat (first|exact Ext.refl _|assumption|apply Ext.app|apply Ext.mk|(refine Ext.setr ?_ (by (first|omega|(simp only[gL]<;>omega))) _))); done)|(simp only[gL,gA,r7]<;>omega)|fail) only[gB,setAll,partL,fldV,reduceIte,Nat.reduceAdd,Nat.reduceMul,r7]
  refine WP.call (l4_ (by omega) (by unfold Fit; omega) _) ?_
  rintro _ _ ⟨rfl,rfl⟩
  refine WP.call (l4_ (by omega) (by unfold Fit; omega) _) ?_
  rintro _ _ ⟨rfl,rfl⟩
  refine WP.call (l4_ (by omega) (by unfold Fit; omega) _) ?_
  rintro _ _ ⟨rfl,rfl⟩
  simp -implicitDefEqProofs (disch:=first|assumption|omega|(simp only[gL]<;>omega)|((repeat (first|exact Ext.refl _|assumption|apply Ext.app|apply Ext.mk|(refine Ext.setr ?_ (by (first|omega|(simp only[gL]<;>omega))) _))); done)|(simp only[gL,gA]<;>omega)|fail) only[gB,setAll,partL,fldV,reduceIte,Nat.reduceAdd,Nat.reduceMul]
  refine WP.call (l4_ (by omega) (by unfold Fit; omega) _) ?_
  rintro _ _ ⟨rfl,rfl⟩
  have hb:∀x y z t:Int,MkI h0 (mkN size) ((zs.take n).map (mkEdge (mkN size) modes)) ((h++[AObj.cells ⟨[I 0,I 0,I 0,I 0],0,0,false⟩]).set h.length (.cells ⟨encE ⟨x,y,z,t⟩,0,0,false⟩)) s h.length:=by
   intro x y z t
   refine ⟨by ((repeat (first|exact Ext.refl _|assumption|apply Ext.app|apply Ext.mk|(refine Ext.setr ?_ (by (first|omega|(simp only[gL]<;>omega))) _)))),?_,?_,(w.gr.app _).set (by omega) _,by simp,hlo⟩
   ·rw[b6_ (by omega),a4Q (by omega)]; exact r6
   ·rw[b6_ (by omega),a4Q (by omega)]; exact r7
  have fin:∀(h':Heap) (e:E),MkI h0 (mkN size) ((zs.take n).map (mkEdge (mkN size) modes)) h' s h.length→h'[h.length]?=some (.cells ⟨encE e,0,0,false⟩)→
    { e with co:=if k % 31=0 then 2147483647-IntKind.i64.wrap (k.tdiv 31) % 3 else e.co }=mkEdge (mkN size) modes k→
    WP (fun p:Nat × Nat=>h8_ tab p.1 p.2 ns (I modes) (.ptr h0.length 0 2 0) (.ptr (h0.length+1) 0 2 0) (I n) (I k) (.ptr h.length 0 4 0) h') Q:=by
   intro h' e w' he hee
   refine c0T (n:=n) (xs:=(zs.take n).map (mkEdge (mkN size) modes)) (by simp; omega) (by omega) (fun h'' s' w''=>?_) w' he
   rw[hee] at w''
   refine ih (n+1) h'' s' (by rw[List.length_take]; omega) ?_
   rw[htk,List.map_append]
   exact w''
  have rd:∀x:AObj,((h++[AObj.cells ⟨[I 0,I 0,I 0,I 0],0,0,false⟩]).set h.length x)[h.length]?=some x:=fun x=>b2_ (by simp)
  have q1:=Int.emod_nonneg k (show mkN size≠0 by omega)
  have q2:=Int.emod_lt_of_pos k (show 0<mkN size by omega)
  have q3:=Int.emod_nonneg (IntKind.i64.wrap (k.tdiv 13)) (show mkN size≠0 by omega)
  have q4:=Int.emod_lt_of_pos (IntKind.i64.wrap (k.tdiv 13)) (show 0<mkN size by omega)
  by_cases hm0:modes % 3=0
  ·simp -implicitDefEqProofs (disch:=first|assumption|omega|(simp only[gL]<;>omega)|((repeat (first|exact Ext.refl _|assumption|apply Ext.app|apply Ext.mk|(refine Ext.setr ?_ (by (first|omega|(simp only[gL]<;>omega))) _))); done)|(simp only[gL,gA]<;>omega)|fail) only[gB,setAll,partL,fldV,reduceIte,Nat.reduceAdd,Nat.reduceMul]
   refine WP.call (l4_ (by omega) (by unfold Fit; omega) _) ?_
   rintro _ _ ⟨rfl,rfl⟩
   simp -implicitDefEqProofs (disch:=first|assumption|omega|(simp only[gL]<;>omega)|((repeat (first|exact Ext.refl _|assumption|apply Ext.app|apply Ext.mk|(refine Ext.setr ?_ (by (first|omega|(simp only[gL]<;>omega))) _))); done)|(simp only[gL,gA]<;>omega)|fail) only[gB,setAll,partL,fldV,reduceIte,Nat.reduceAdd,Nat.reduceMul]
   refine fin _ ⟨k % mkN size,IntKind.i64.wrap (k.tdiv 13) % mkN size,(k % mkN size+IntKind.i64.wrap (k.tdiv 13) % mkN size) % 2,IntKind.i64.wrap (k.tdiv 900) % 9⟩ ?_ ?_ ?_
   ·exact ⟨(hb _ _ _ _).ext.setr (by omega) _,by rw[b6_ (by omega)]; exact (hb _ _ _ _).r6,by rw[b6_ (by omega)]; exact (hb _ _ _ _).r7,(hb _ _ _ _).gr.set (by omega) _,by simp,hlo⟩
   ·rw[b2_ (by simp)]; rfl
   ·simp[mkEdge,hm0]
  ·simp -implicitDefEqProofs (disch:=first|assumption|omega|(simp only[gL]<;>omega)|((repeat (first|exact Ext.refl _|assumption|apply Ext.app|apply Ext.mk|(refine Ext.setr ?_ (by (first|omega|(simp only[gL]<;>omega))) _))); done)|(simp only[gL,gA]<;>omega)|fail) only[gB,setAll,partL,fldV,reduceIte,Nat.reduceAdd,Nat.reduceMul]
   refine WP.call (l4_ (by omega) (by unfold Fit; omega) _) ?_
   rintro _ _ ⟨rfl,rfl⟩
   by_cases hm1:modes % 3=1
   ·simp -implicitDefEqProofs (disch:=first|assumption|omega|(simp only[gL]<;>omega)|((repeat (first|exact Ext.refl _|assumption|apply Ext.app|apply Ext.mk|(refine Ext.setr ?_ (by (first|omega|(simp only[gL]<;>omega))) _))); done)|(simp only[gL,gA]<;>omega)|fail) only[gB,setAll,partL,fldV,reduceIte,Nat.reduceAdd,Nat.reduceMul]
    refine WP.call (l4_ (by omega) (by unfold Fit; omega) _) ?_
    rintro _ _ ⟨rfl,rfl⟩
    simp -implicitDefEqProofs (disch:=first|assumption|omega|(simp only[gL]<;>omega)|((repeat (first|exact Ext.refl _|assumption|apply Ext.app|apply Ext.mk|(refine Ext.setr ?_ (by (first|omega|(simp only[gL]<;>omega))) _))); done)|(simp only[gL,gA]<;>omega)|fail) only[gB,setAll,partL,fldV,reduceIte,Nat.reduceAdd,Nat.reduceMul]
    refine fin _ ⟨k % mkN size,IntKind.i64.wrap (k.tdiv 13) % mkN size,IntKind.i64.wrap (IntKind.i64.wrap (k.tdiv 170) % 5*(k % mkN size)) % 3,IntKind.i64.wrap (k.tdiv 900) % 9⟩ ?_ ?_ ?_
    ·exact ⟨(hb _ _ _ _).ext.setr (by omega) _,by rw[b6_ (by omega)]; exact (hb _ _ _ _).r6,by rw[b6_ (by omega)]; exact (hb _ _ _ _).r7,(hb _ _ _ _).gr.set (by omega) _,by simp,hlo⟩
    ·rw[b2_ (by simp)]; rfl
    ·simp[mkEdge,hm1]
   ·simp -implicitDefEqProofs (disch:=first|assumption|omega|(simp only[gL]<;>omega)|((repeat (first|exact Ext.refl _|assumption|apply Ext.app|apply Ext.mk|(refine Ext.setr ?_ (by (first|omega|(simp only[gL]<;>omega))) _))); done)|(simp only[gL,gA]<;>omega)|fail) only[gB,setAll,partL,fldV,reduceIte,Nat.reduceAdd,Nat.reduceMul]
    refine fin _ ⟨k % mkN size,IntKind.i64.wrap (k.tdiv 13) % mkN size,IntKind.i64.wrap (k.tdiv 170) % 5,IntKind.i64.wrap (k.tdiv 900) % 9⟩ ?_ ?_ ?_
    ·exact hb _ _ _ _
    ·rw[b2_ (by simp)]; rfl
    ·simp[mkEdge,hm0,hm1]
theorem b5O {h:Heap}{size modes:Int}{ns:AV}{zs:List Int}(hns:Sl h 1 ns (zs.map encI)) :
  Tot tab g2_ [I size,ns,I modes] h fun r h'=>Ext h h'∧∃s,r=.agg [I (mkN size),s]∧Gr h.length h'.length h' 4 s ((mkE size zs modes).map encE):=by
 refine WP.tot (fun k=>(b0c k _ _ _ h).trans (b1s tab k _ _ _ h)) ?_
 have hN:=b0B size
 simp -implicitDefEqProofs (disch:=first|assumption|omega|(simp only[gL,gA]<;>omega)|fail) only[gC,reduceIte]
 refine WP.call (l4_ (by omega) (by unfold Fit; omega) _) ?_
 rintro _ _ ⟨rfl,rfl⟩
 simp -implicitDefEqProofs (disch:=first|assumption|omega|(simp only[gL,gA]<;>omega)|fail) only[gC,reduceIte]
 refine WP.ent (c0U (size:=size) (modes:=modes) hns ?_ (zs.take 40).length 0 _ .nils (by omega) ⟨?_,?_,?_,Gr.nil ..,by simp,by simp⟩) fun i=>rfl
 ·intro h1 s w h' e g
  exact ⟨e,s,rfl,(g.mono (by omega) (Nat.le_refl _)).low _ (Nat.le_refl _)⟩
 ·((repeat (first|exact Ext.refl _|assumption|apply Ext.app|apply Ext.mk|(refine Ext.setr ?_ (by (first|omega|(simp only[gL]<;>omega))) _))))
 ·rw[b6_ (by omega),a4Q (by simp),b0p (by omega)]; simp
 ·rw[b2_ (by simp)]; rfl
end Go.Gm.AQ
namespace Go.Gm.AQ
open Go Go.Gm
abbrev tyIt:TypeId:=198
abbrev tyHp:TypeId:=218
def encIt (x:Int × Int):List AV:=[I x.1,I x.2]
theorem a7p (call:CallF)(o off hi g:Nat)(args:List AV)(h:Heap):callMeth tab call "Len" (.ifc tyHp (.ptr o off hi g)) args h=call m4_ (.ptr o off hi g::args) h:=rfl
theorem x7_ (call:CallF)(o off hi g:Nat)(args:List AV)(h:Heap):callMeth tab call "Less" (.ifc tyHp (.ptr o off hi g)) args h=call z5_ (.ptr o off hi g::args) h:=rfl
theorem a5u (call:CallF)(o off hi g:Nat)(args:List AV)(h:Heap):callMeth tab call "Swap" (.ifc tyHp (.ptr o off hi g)) args h=call s7_ (.ptr o off hi g::args) h:=rfl
theorem b5P (call:CallF)(o off hi g:Nat)(args:List AV)(h:Heap):callMeth tab call "Push" (.ifc tyHp (.ptr o off hi g)) args h=call z6_ (.ptr o off hi g::args) h:=rfl
theorem b6y (call:CallF)(o off hi g:Nat)(args:List AV)(h:Heap):callMeth tab call "Pop" (.ifc tyHp (.ptr o off hi g)) args h=call a0x (.ptr o off hi g::args) h:=rfl
theorem a8L (call:CallF)(o off hi g:Nat)(args:List AV)(h:Heap):callMeth tab call "milestone/queue.place" (.ifc tyHp (.ptr o off hi g)) args h=call w8_ (.ptr o off hi g::args) h:=rfl
theorem b0C (t:TypeId)(z v:AV):tAssert t z true (.ifc t v)=some (.tup [v,.bool true]):=by simp[tAssert]
theorem d6_ (a:AV)(l:List AV):extr 0 (.tup (a::l))=some a:=rfl
theorem d7_ (a b:AV)(l:List AV):extr 1 (.tup (a::b::l))=some b:=rfl
theorem b5c (a b c:AV)(l:List AV):extr 2 (.tup (a::b::c::l))=some c:=rfl
structure QW (W:Nat→Prop) (h:Heap) (oq:Nat) (xs:List (Int × Int)) (at':List Int) (s1 s2:AV) (o1 o2:Nat):Prop where
 row:h[oq]?=some (.cells ⟨[s1,s2],0,0,false⟩)
 g1:Gr o1 (o1+1) h 2 s1 (xs.map encIt)
 n1:s1≠.nils→W o1∧o1≠oq∧o1≠o2∧o1<h.length
 g2:Gr o2 (o2+1) h 1 s2 (at'.map encI)
 w2:W o2
 d2:o2≠oq
 l2:o2<h.length
 wq:W oq
 len:xs.length≤10000000
 lat:at'.length≤10000000
def QS (W:Nat→Prop)(h:Heap)(oq:Nat)(xs:List (Int × Int))(at':List Int):Prop:=∃s1 s2 o1 o2,QW W h oq xs at' s1 s2 o1 o2
section
variable {W:Nat→Prop} {h h':Heap} {oq:Nat} {xs:List (Int × Int)} {at':List Int} {s1 s2:AV} {o1 o2:Nat}
theorem QW.ext (q:QW W h oq xs at' s1 s2 o1 o2)(e:Ext h h'):QW W h' oq xs at' s1 s2 o1 o2:=
 ⟨e.get q.row,q.g1.ext e,fun n=>let ⟨a,b,c,d⟩:=q.n1 n; ⟨a,b,c,Nat.lt_of_lt_of_le d e.len⟩,q.g2.ext e,q.w2,q.d2,Nat.lt_of_lt_of_le q.l2 e.len,q.wq,q.len,q.lat⟩
theorem QS.ext (q:QS W h oq xs at')(e:Ext h h'):QS W h' oq xs at':=let ⟨s1,s2,o1,o2,q⟩:=q; ⟨s1,s2,o1,o2,q.ext e⟩
theorem QS.mono {W':Nat→Prop}(q:QS W h oq xs at')(hw:∀o,o<h.length→W o→W' o):QS W' h oq xs at':=by
 obtain ⟨s1,s2,o1,o2,q⟩:=q
 have hq:=(List.getElem?_eq_some_iff.1 q.row).1
 exact ⟨s1,s2,o1,o2,q.row,q.g1,fun n=>let ⟨a,b,c,d⟩:=q.n1 n; ⟨hw _ d a,b,c,d⟩,q.g2,hw _ q.l2 q.w2,q.d2,q.l2,hw _ hq q.wq,q.len,q.lat⟩
theorem QS.frs {D:Nat→Prop}(q:QS W h oq xs at')(f:FrS D h h')(hd:∀o,o<h.length→W o→¬D o):QS W h' oq xs at':=by
 obtain ⟨s1,s2,o1,o2,q⟩:=q
 have hq:=(List.getElem?_eq_some_iff.1 q.row).1
 refine ⟨s1,s2,o1,o2,by rw[f.get (hd _ hq q.wq) hq]; exact q.row,?_,fun n=>let ⟨a,b,c,d⟩:=q.n1 n; ⟨a,b,c,Nat.lt_of_lt_of_le d f.len⟩,q.g2.frs f fun o k1 k2=>?_,q.w2,q.d2,Nat.lt_of_lt_of_le q.l2 f.len,q.wq,q.len,q.lat⟩
 ·by_cases hn:s1=.nils
  ·rcases q.g1 with k|⟨o,g,wg,cs,_,_,k,_⟩
   ·exact .inl k
   ·rw[hn] at k; cases k
  ·obtain ⟨a,b,c,d⟩:=q.n1 hn
   exact q.g1.frs f fun o k1 k2=>by
    obtain rfl:o=o1:=by omega
    exact hd _ d a
 ·obtain rfl:o=o2:=by omega
  exact hd _ q.l2 q.w2
theorem b2H (q:QS W h oq xs at'):Tot tab m4_ [.ptr oq 0 2 0] h fun r h'=>r=I xs.length∧h=h':=by
 obtain ⟨s1,s2,o1,o2,q⟩:=q
 refine WP.tot (fun k=>(b1X k _ h).trans (b2Y tab k _ h)) ?_
 simp -implicitDefEqProofs (disch:=first|assumption|omega|(simp only[gL,gA]<;>omega)|fail) only[gC,reduceIte,q.row,q.g1.sl.lenG]
 exact WP.ret ⟨rfl,rfl⟩
theorem b5d (q:QS W h oq xs at')(id:Int):Tot tab w8_ [.ptr oq 0 2 0,I id] h fun r h'=>r=I (if 0≤id∧id<at'.length then gi at' id else -1)∧h=h':=by
 obtain ⟨s1,s2,o1,o2,q⟩:=q
 refine WP.tot (fun k=>(b0n k _ _ h).trans (b1H tab k _ _ h)) ?_
 by_cases h0:0≤id
 ·by_cases h1:id<at'.length
  ·simp -implicitDefEqProofs (disch:=first|assumption|omega|exact Ext.refl _|(simp only[gL,gA]<;>omega)|fail) only[gC,reduceIte,q.row,q.g2.sl.lenG,q.g2.sl.idxG,q.g2.sl.ld0,encI]
   exact WP.ret ⟨by rw[if_pos ⟨h0,h1⟩],rfl⟩
  ·simp -implicitDefEqProofs (disch:=first|assumption|omega|(simp only[gL,gA]<;>omega)|fail) only[gC,reduceIte,q.row,q.g2.sl.lenG]
   exact WP.ret ⟨by rw[if_neg (fun q=>h1 q.2)],rfl⟩
 ·simp -implicitDefEqProofs (disch:=first|assumption|omega|(simp only[gL,gA]<;>omega)|fail) only[gC,reduceIte]
  exact WP.ret ⟨by rw[if_neg (fun q=>h0 q.1)],rfl⟩
theorem b7j (x y:Int × Int)(h:Heap):Tot tab s6_ [.agg (encIt x),.agg (encIt y)] h fun r h'=>r=.bool (decide (ltI x y))∧Ext h h':=by
 refine WP.tot (fun k=>(b1k k _ _ h).trans (b2q tab k _ _ h)) ?_
 simp only[encIt]
 by_cases h1:x.2=y.2
 ·by_cases h2:x.1<y.1
  ·simp -implicitDefEqProofs (disch:=first|assumption|omega|(simp only[gL,gA]<;>omega)|fail) only[gC,reduceIte]
   exact WP.ret ⟨by simp[ltI,h1,h2],by ((repeat (first|exact Ext.refl _|assumption|apply Ext.app|apply Ext.mk|(refine Ext.setr ?_ (by (first|omega|(simp only[gL]<;>omega))) _))))⟩
  ·simp -implicitDefEqProofs (disch:=first|assumption|omega|(simp only[gL,gA]<;>omega)|fail) only[gC,reduceIte]
   exact WP.ret ⟨by simp[ltI,h1,h2],by ((repeat (first|exact Ext.refl _|assumption|apply Ext.app|apply Ext.mk|(refine Ext.setr ?_ (by (first|omega|(simp only[gL]<;>omega))) _))))⟩
 ·by_cases h2:x.2<y.2
  ·simp -implicitDefEqProofs (disch:=first|assumption|omega|(simp only[gL,gA]<;>omega)|fail) only[gC,reduceIte]
   exact WP.ret ⟨by simp[ltI,h1,h2],by ((repeat (first|exact Ext.refl _|assumption|apply Ext.app|apply Ext.mk|(refine Ext.setr ?_ (by (first|omega|(simp only[gL]<;>omega))) _))))⟩
  ·simp -implicitDefEqProofs (disch:=first|assumption|omega|(simp only[gL,gA]<;>omega)|fail) only[gC,reduceIte]
   exact WP.ret ⟨by simp[ltI,h1,h2],by ((repeat (first|exact Ext.refl _|assumption|apply Ext.app|apply Ext.mk|(refine Ext.setr ?_ (by (first|omega|(simp only[gL]<;>omega))) _))))⟩
theorem a7O (q:QS W h oq xs at'){i j:Int}(i0:0≤i)(i1:i<xs.length)(j0:0≤j)(j1:j<xs.length):Tot tab z5_ [.ptr oq 0 2 0,I i,I j] h fun r h'=>r=.bool (decide (ltI (gi xs i) (gi xs j)))∧Ext h h':=by
 obtain ⟨s1,s2,o1,o2,q⟩:=q
 refine WP.tot (fun k=>(b1l k _ _ _ h).trans (b2t tab k _ _ _ h)) ?_
 simp -implicitDefEqProofs (disch:=first|assumption|omega|exact Ext.refl _|(simp only[gL,gA]<;>omega)|fail) only[gC,reduceIte,q.row,q.g1.sl.idxG,q.g1.sl.ldN]
 refine WP.call (b7j _ _ _) ?_
 rintro _ h' ⟨rfl,e⟩
 exact WP.ret ⟨rfl,e⟩
theorem b4b (x:Int × Int):(AV.agg (encIt x)).cells=encIt x:=rfl
theorem b8Q (q:QS W h oq xs at'){i j:Int}(i0:0≤i)(i1:i<xs.length)(j0:0≤j)(j1:j<xs.length)(ai:0≤(gi xs i).1∧(gi xs i).1<at'.length)(aj:0≤(gi xs j).1∧(gi xs j).1<at'.length) :
  Tot tab s7_ [.ptr oq 0 2 0,I i,I j] h fun r h'=>QS W h' oq (sw xs i j) ((at'.set (gi xs j).1.toNat i).set (gi xs i).1.toNat j)∧FrS W h h':=by
 obtain ⟨s1,s2,o1,o2,q⟩:=q
 refine WP.tot (fun k=>(b1n k _ _ _ h).trans (b2x tab k _ _ _ h)) ?_
 have hq:=(List.getElem?_eq_some_iff.1 q.row).1
 have hn:s1≠.nils:=q.g1.nnil (by intro hx; rw[List.map_eq_nil_iff] at hx; rw[hx] at i1; simp at i1; omega)
 obtain ⟨w1,d1,d12,l1⟩:=q.n1 hn
 obtain ⟨h1,k1,k2,k3,k4⟩:=q.g1.write0 (i:=i) (v:=.agg (encIt (gi xs j))) i0 (by simp; omega) rfl rfl
 rw[b4b,←List.map_set] at k2
 obtain ⟨h2,m1,m2,m3,m4⟩:=k2.write0 (i:=j) (v:=.agg (encIt (gi xs i))) j0 (by simp; omega) rfl rfl
 rw[b4b,←List.map_set] at m2
 have m2':Gr o1 (o1+1) h2 2 s1 ((sw xs i j).map encIt):=m2
 have row1:h1[oq]?=some (.cells ⟨[s1,s2],0,0,false⟩):=by rw[k3.get (by omega) hq]; exact q.row
 have row2:h2[oq]?=some (.cells ⟨[s1,s2],0,0,false⟩):=by rw[m3.get (by omega) (by omega)]; exact row1
 have g22:Gr o2 (o2+1) h2 1 s2 (at'.map encI):=(q.g2.fr k3 (by omega)).fr m3 (by omega)
 have hl:=a7u xs i j
 have gi1:gi (sw xs i j) i=gi xs j:=by
  rw[gi_sw i0 i1 j0 j1 i0]
  by_cases hij:i=j
  ·rw[if_pos hij,hij]
  ·rw[if_neg hij,if_pos rfl]
 have gj1:gi (sw xs i j) j=gi xs i:=by rw[gi_sw i0 i1 j0 j1 j0,if_pos rfl]
 obtain ⟨h3,p1,p2,p3,p4⟩:=g22.write0 (i:=(gi xs j).1) (v:=I i) aj.1 (by simp; omega) rfl rfl
 have row3:h3[oq]?=some (.cells ⟨[s1,s2],0,0,false⟩):=by rw[p3.get (by have:=q.d2; omega) (by omega)]; exact row2
 obtain ⟨h4,r1,r2,r3,r4⟩:=p2.write0 (i:=(gi xs i).1) (v:=I j) ai.1 (by simp; omega) rfl rfl
 have row4:h4[oq]?=some (.cells ⟨[s1,s2],0,0,false⟩):=by rw[r3.get (by have:=q.d2; omega) (by omega)]; exact row3
 simp only[encIt] at k1 m1
 simp -implicitDefEqProofs (disch:=first|assumption|omega|exact Ext.refl _|(simp only[gL,gA]<;>omega)|fail) only[gC,reduceIte,q.row,q.g1.sl.idxG,q.g1.sl.ldN,k1,m1,row2,g22.sl.idxG,m2'.sl.idxG,m2'.sl.ldf,encIt,gi1,gj1,p1,r1,row1,row3]
 have hd2:=q.d2
 refine WP.ret ⟨⟨s1,s2,o1,o2,row4,(m2'.fr p3 (by omega)).fr r3 (by omega),fun _=>⟨w1,d1,d12,by omega⟩,r2.cong ?_,q.w2,q.d2,by have:=q.l2; omega,q.wq,by rw[hl]; exact q.len,by simp; exact q.lat⟩,?_⟩
 ·rw[a0v,a0v,List.map_set,List.map_set]; rfl
 ·have f1:FrS W h h2:=(k3.trans m3).s.mono fun o _ k=>by
   obtain rfl:o=o1:=by omega
   exact w1
  exact f1.trans ((p3.trans r3).s.mono fun o _ k=>by
   obtain rfl:o=o2:=by omega
   exact q.w2)
theorem b8R (q:QS W h oq xs at'){id key:Int}(h0:0≤id)(h1:id<at'.length)(hlen:xs.length+1≤10000000) :
  Tot tab z6_ [.ptr oq 0 2 0,.ifc tyIt (.agg (encIt (id,key)))] h fun r h'=>QS (fun o=>W o∨h.length≤o) h' oq (xs++[(id,key)]) (at'.set id.toNat xs.length)∧FrS W h h':=by
 obtain ⟨s1,s2,o1,o2,q⟩:=q
 refine WP.tot (fun k=>(b1m k _ _ h).trans (b2v tab k _ _ h)) ?_
 have hq:=(List.getElem?_eq_some_iff.1 q.row).1
 have hd2:=q.d2
 have hl2:=q.l2
 have hql:=q.len
 have hqa:=q.lat
 obtain ⟨hA,hhA⟩:∃hA,hA=(h++[AObj.cells ⟨[I 0,I 0],0,0,false⟩]).set h.length (.cells ⟨[I id,I key],0,0,false⟩):=⟨_,rfl⟩
 have eA:Ext h hA:=by rw[hhA]; ((repeat (first|exact Ext.refl _|assumption|apply Ext.app|apply Ext.mk|(refine Ext.setr ?_ (by (first|omega|(simp only[gL]<;>omega))) _))))
 have hlA:hA.length=h.length+1:=by rw[hhA]; simp
 have rA:hA[h.length]?=some (.cells ⟨[I id,I key],0,0,false⟩):=by rw[hhA]; exact b2_ (by simp)
 have rowA:=eA.get q.row
 have g2A:=q.g2.ext eA
 obtain ⟨hB,p1,p2,p3,p4⟩:=g2A.write0 (i:=id) (v:=I xs.length) h0 (by simp; omega) rfl rfl
 have rowB:hB[oq]?=some (.cells ⟨[s1,s2],0,0,false⟩):=by rw[p3.get (by omega) (by omega)]; exact rowA
 have rB:hB[h.length]?=some (.cells ⟨[I id,I key],0,0,false⟩):=by rw[p3.get (by omega) (by omega)]; exact rA
 have g1B:Gr o1 (o1+1) hB 2 s1 (xs.map encIt):=by
  by_cases hn:s1=.nils
  ·subst hn
   rw[q.g1.isNil]; exact .inl ⟨rfl,rfl⟩
  ·have:=q.n1 hn
   exact (q.g1.ext eA).fr p3 (by omega)
 have eC:Ext hB (mkObj hB (encIt (id,key))):=Ext.push _ _
 obtain ⟨s3,hD,o3,m1,m2,m3,m4⟩:=(g1B.ext eC).appP (bytes:=16) (fun hn=>by have:=q.n1 hn; simp[mkObj]; omega) ((Gr.lit (h:=hB) (sz:=2) (v:=encIt (id,key)) rfl).sl) (by omega) (by omega) (by simp; omega)
 have hn3:s3≠.nils:=m2.nnil (by simp)
 obtain ⟨m5,m6⟩:=m3 hn3
 have hlC:(mkObj hB (encIt (id,key))).length=h.length+2:=by simp[mkObj]; omega
 have hlD:=m4.len
 have rowD:hD[oq]?=some (.cells ⟨[s1,s2],0,0,false⟩):=by
  rw[m4.get (fun z=>by have:=q.n1 z.1; omega) (by omega)]; exact eC.get rowB
 have g2D:Gr o2 (o2+1) hD 1 s2 ((at'.map encI).set id.toNat (I xs.length).cells):=(p2.ext eC).frs m4 fun o k1 k2 z=>by have:=q.n1 z.1; omega
 rw[b0_] at m1
 simp only[encIt] at m1
 simp -implicitDefEqProofs (disch:=first|assumption|omega|(simp only[gL]<;>omega)|((repeat (first|exact Ext.refl _|assumption|apply Ext.app|apply Ext.mk|(refine Ext.setr ?_ (by (first|omega|(simp only[gL]<;>omega))) _))); done)|(simp only[gL,gA,b0C,d6_,d7_,encIt]<;>omega)|fail) only[gB,setAll,partL,fldV,reduceIte,Nat.reduceAdd,Nat.reduceMul,b0C,d6_,d7_,encIt]
 rw[show AV.int .i64 0=I 0 from rfl,←hhA]
 simp -implicitDefEqProofs (disch:=first|assumption|omega|(simp only[gL]<;>omega)|((repeat (first|exact Ext.refl _|assumption|apply Ext.app|apply Ext.mk|(refine Ext.setr ?_ (by (first|omega|(simp only[gL]<;>omega))) _))); done)|(simp only[gL,gA,q.row,rowA,rA,q.g1.sl.lenG,g2A.sl.idxG,p1,rowB,rB,m1,rowD,m2.sl.one,m2.sl.cells]<;>omega)|fail) only[gB,setAll,partL,fldV,reduceIte,Nat.reduceAdd,Nat.reduceMul,q.row,rowA,rA,q.g1.sl.lenG,g2A.sl.idxG,p1,rowB,rB,m1,rowD,m2.sl.one,m2.sl.cells]
 have ho3q:oq≠o3:=by
  rcases m5 with ⟨rfl,z⟩|z
  ·exact (q.n1 z).2.1.symm
  ·omega
 have ho32:o3≠o2:=by
  rcases m5 with ⟨rfl,z⟩|z
  ·exact (q.n1 z).2.2.1
  ·omega
 refine WP.ret ⟨⟨s3,s2,o3,o2,?_,?_,fun _=>⟨?_,ho3q.symm,ho32,by simp; omega⟩,?_,.inl q.w2,q.d2,by simp; omega,.inl q.wq,by simp; omega,by simp; exact q.lat⟩,?_⟩
 ·rw[b2_ (by omega)]
 ·refine (m2.set (by omega) _).cong (by simp)
 ·rcases m5 with ⟨rfl,z⟩|z
  ·exact .inl (q.n1 z).1
  ·exact .inr (by omega)
 ·refine (g2D.set (by omega) _).cong ?_
  rw[a0v,List.map_set]; rfl
 ·have f1:FrS W h hB:=(FrS.ofExt eA).trans (p3.s.mono fun o _ k=>by
   obtain rfl:o=o2:=by omega
   exact q.w2)
  have f2:FrS W hB hD:=(FrS.ofExt eC).trans (m4.mono fun o _ k=>by
   rw[k.2]; exact (q.n1 k.1).1)
  refine (f1.trans f2).trans ⟨by simp,fun o k1 k2=>List.getElem?_set_ne (fun z=>?_)⟩
  exact k1 (z▸q.wq)
theorem b8S (q:QS W h oq xs at'){n:Nat}(hn:xs.length=n+1)(an:0≤(gi xs n).1∧(gi xs n).1<at'.length) :
  Tot tab a0x [.ptr oq 0 2 0] h fun r h'=>r=.ifc tyIt (.agg (encIt (gi xs n)))∧QS W h' oq (xs.take n) (at'.set (gi xs n).1.toNat (-1))∧FrS W h h':=by
 obtain ⟨s1,s2,o1,o2,q⟩:=q
 refine WP.tot (fun k=>(b1Y k _ h).trans (b3a tab k _ h)) ?_
 have hq:=(List.getElem?_eq_some_iff.1 q.row).1
 have hd2:=q.d2
 have hl2:=q.l2
 have hql:=q.len
 have hqa:=q.lat
 have hnn:s1≠.nils:=q.g1.nnil (by intro hx; rw[List.map_eq_nil_iff] at hx; rw[hx] at hn; simp at hn)
 obtain ⟨w1,d1,d12,l1⟩:=q.n1 hnn
 obtain ⟨x,hx⟩:∃x,gi xs n=x:=⟨_,rfl⟩
 rw[hx] at an ⊢
 obtain ⟨hA,hhA⟩:∃hA,hA=(h++[AObj.cells ⟨[I 0,I 0],0,0,false⟩]).set h.length (.cells ⟨[I x.1,I x.2],0,0,false⟩):=⟨_,rfl⟩
 have eA:Ext h hA:=by rw[hhA]; ((repeat (first|exact Ext.refl _|assumption|apply Ext.app|apply Ext.mk|(refine Ext.setr ?_ (by (first|omega|(simp only[gL]<;>omega))) _))))
 have hlA:hA.length=h.length+1:=by rw[hhA]; simp
 have rA:hA[h.length]?=some (.cells ⟨[I x.1,I x.2],0,0,false⟩):=by rw[hhA]; exact b2_ (by simp)
 have rowA:=eA.get q.row
 have g1A:=q.g1.ext eA
 have g2A:=q.g2.ext eA
 obtain ⟨s3,t1,t2,t3⟩:=g1A.take (n:=(n:Int)) (by omega) (by simp; omega) hnn
 obtain ⟨hB,hhB⟩:∃hB,hB=hA.set oq (.cells ⟨[s3,s2],0,0,false⟩):=⟨_,rfl⟩
 have hlB:hB.length=hA.length:=by rw[hhB]; simp
 have rowB:hB[oq]?=some (.cells ⟨[s3,s2],0,0,false⟩):=by rw[hhB]; exact b2_ (by omega)
 have rB:hB[h.length]?=some (.cells ⟨[I x.1,I x.2],0,0,false⟩):=by rw[hhB,b6_ (by omega)]; exact rA
 have g1B:Gr o1 (o1+1) hB 2 s3 ((xs.map encIt).take (n:Int).toNat):=by rw[hhB]; exact t2.set (by omega) _
 have g2B:Gr o2 (o2+1) hB 1 s2 (at'.map encI):=by rw[hhB]; exact g2A.set (by omega) _
 obtain ⟨hC,p1,p2,p3,p4⟩:=g2B.write0 (i:=x.1) (v:=I (-1)) an.1 (by simp; omega) rfl rfl
 have rC:hC[h.length]?=some (.cells ⟨[I x.1,I x.2],0,0,false⟩):=by rw[p3.get (by omega) (by omega)]; exact rB
 have rowC:hC[oq]?=some (.cells ⟨[s3,s2],0,0,false⟩):=by rw[p3.get (by omega) (by omega)]; exact rowB
 have hn1:((xs.length:Nat):Int)-1=n:=by omega
 simp -implicitDefEqProofs (disch:=first|assumption|omega|(simp only[gL]<;>omega)|((repeat (first|exact Ext.refl _|assumption|apply Ext.app|apply Ext.mk|(refine Ext.setr ?_ (by (first|omega|(simp only[gL]<;>omega))) _))); done)|(simp only[gL,gA,q.row,q.g1.sl.lenG,hn1,q.g1.sl.idxG,q.g1.sl.ldN,hx,encIt]<;>omega)|fail) only[gB,setAll,partL,fldV,reduceIte,Nat.reduceAdd,Nat.reduceMul,q.row,q.g1.sl.lenG,hn1,q.g1.sl.idxG,q.g1.sl.ldN,hx,encIt]
 rw[show AV.int .i64 0=I 0 from rfl,←hhA]
 simp -implicitDefEqProofs (disch:=first|assumption|omega|(simp only[gL]<;>omega)|((repeat (first|exact Ext.refl _|assumption|apply Ext.app|apply Ext.mk|(refine Ext.setr ?_ (by (first|omega|(simp only[gL]<;>omega))) _))); done)|(simp only[gL,gA,q.row,rowA,t1,t2.sl.one,t2.sl.cells]<;>omega)|fail) only[gB,setAll,partL,fldV,reduceIte,Nat.reduceAdd,Nat.reduceMul,q.row,rowA,t1,t2.sl.one,t2.sl.cells]
 rw[←hhB]
 simp -implicitDefEqProofs (disch:=first|assumption|omega|(simp only[gL]<;>omega)|((repeat (first|exact Ext.refl _|assumption|apply Ext.app|apply Ext.mk|(refine Ext.setr ?_ (by (first|omega|(simp only[gL]<;>omega))) _))); done)|(simp only[gL,gA,rA,rowB,rB,g2B.sl.idxG,p1,rC]<;>omega)|fail) only[gB,setAll,partL,fldV,reduceIte,Nat.reduceAdd,Nat.reduceMul,rA,rowB,rB,g2B.sl.idxG,p1,rC]
 refine WP.ret ⟨rfl,⟨s3,s2,o1,o2,rowC,?_,fun _=>⟨w1,d1,d12,by omega⟩,?_,q.w2,q.d2,by omega,q.wq,by have:=q.len; simp; omega,by simp; exact q.lat⟩,?_⟩
 ·refine (g1B.fr p3 (by omega)).cong ?_
  rw[Int.toNat_natCast,List.map_take]
 ·refine p2.cong ?_
  rw[a0v,List.map_set]; rfl
 ·have f1:FrS W hA hB:=by
   rw[hhB]
   exact ⟨by simp,fun o k1 k2=>List.getElem?_set_ne (fun z=>by subst z; exact k1 q.wq)⟩
  exact ((FrS.ofExt eA).trans f1).trans (p3.s.mono fun o _ k=>by
   obtain rfl:o=o2:=by omega
   exact q.w2)
end
end Go.Gm.AQ
